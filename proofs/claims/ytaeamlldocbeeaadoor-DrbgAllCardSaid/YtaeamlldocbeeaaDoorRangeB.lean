/- As RangeR, where the iterator turns a box of its own (block bb) and the body pays Kp. -/
import Derived.Test.YtaeamlldocbeeaaDoorHashC
import Derived.RangeFuncBound
import Derived.RangeFuncCalls
import Derived.RangeFuncLeaves
import Derived.RangeFuncNested
import Derived.RangeFuncKeeps
namespace Go.Proofs.YtaeamlldocbeeaaDoor
open Go.RowKit Go.Shelf

/-- an iterator's promise: before the element x comes behind pre, 'R pre x' holds of the world -/
def SeqB {α : Type} (F : Fence) (n : Nat) (P : Program) (g : Nat) (lb : Array Value) (encs : α → Array Value) (R : List α → α → World → Prop) (Kp : World → World → Prop) (S Sp : List α → Prop) (bb : Nat) (w : World) : Prop :=
  ∀ (l : Nat) (J Jx : List α → World → Prop) (W : World), Below w.heap.size w W → AbidesFrom W.heap.size J → (∀ s X Y, J s X → X.grownBy Y (some bb) → J s Y) → AbidesFrom W.heap.size Jx →
    (∀ pre x W1, J pre W1 → R pre x W1 → YieldAt F (n - 1) P l (encs x) W1 fun e W' => (e = .returned (.bool true) ∧ J (pre ++ [x]) W' ∧ Kp W1 W') ∨ (e = .returned (.bool false) ∧ Jx (pre ++ [x]) W')) →
    J [] W → CallsIn F n P g (#[.func (.yield l) #[] #[]] ++ lb) W fun e W' => (∃ v, e = .returned v) ∧ ((∃ xs, S xs ∧ J xs W') ∨ (∃ pre, Sp pre ∧ Jx pre W'))

/-- how the body of a round may be left -/
def LeftB {α : Type} (Kp : World → World → Prop) (I : List α → World → Prop) (Ix : Code → List α → World → Prop) (xs : List α) (W : World) : Exit → Act → World → Prop
  | .normal, _, W' => KeepsOthers W W' ∧ Kp W W' ∧ I xs W'
  | .ret, _, W' => KeepsOthers W W' ∧ Ix .ret xs W'
  | .exit id, _, W' => KeepsOthers W W' ∧ Ix (.exit id) xs W'
  | .goto t, _, W' => KeepsOthers W W' ∧ Ix (.goto t) xs W'
  | .panic _, _, _ => False
  | .outgrown, _, _ => False

theorem wpIn_rangeB {α : Type} {F : Fence} {n : Nat} {P : Program} {g : Operand} {ps : Array Tmp} {assign body : Code} {Q : Exit → Act → World → Prop} {a : Act} {w : World}
    (hro : F.round = none) (h1 : 1 ≤ n) {gf : Nat} {lb : Array Value} (hg : a.eval g = .func (.func gf) #[] lb) (hFg : F.fn gf) (eg : ∀ args w, (callFunc gf args).run P w = .ok (.enter gf args) w)
    {encs : α → Array Value} {R : List α → α → World → Prop} {Kp : World → World → Prop} {S Sp : List α → Prop} {bb : Nat} (hseq : SeqB F (n - 1) P gf lb encs R Kp S Sp bb w) (hbb : bb < w.heap.size)
    (hKt : ∀ {A B C : World}, Kp A B → Kp B C → Kp A C) (hKb : ∀ (W : World) (l : Nat) (o o' : Obj), w.heap.size ≤ l → W.heap[l]? = some o → o.isCells = false → o.isWalk = false → Kp W (W.putObj l o')) (hps : ∀ x, (encs x).size = ps.size)
    (hR : ∀ pre x W l o o', R pre x W → W.heap[l]? = some o → o.isCells = false → R pre x (W.putObj l o'))
    (I : List α → World → Prop) (Ix : Code → List α → World → Prop) (hI : OwnFrom w.heap.size I) (hIb : ∀ s X Y, I s X → X.grownBy Y (some bb) → I s Y) (hIx : ∀ c, OwnFrom w.heap.size (Ix c)) (h0 : I [] w) (b : α → Act)
    (hassign : ∀ (l : Nat) (x : α) (W : World) (K : Act → World → Prop), K (b x) W →
      assign.wpIn (F.inRound l) (n - 1 - 1) P (Exit.then K (fun _ _ _ => False)) { tmps := (ps.zip (encs x)).foldl (fun t (p, v) => t.setIfInBounds p v) a.tmps, defers := [] } W)
    (hbody : ∀ (l : Nat) (pre : List α) (x : α) (W : World), I pre W → R pre x W → body.wpIn (F.inRound l) (n - 1 - 1) P (LeftB Kp I Ix (pre ++ [x]) W) (b x) W)
    (hdone : ∀ (D : Nat) (xs : List α) (W : World), w.heap.size ≤ D → S xs → I xs W → W.heap[D]? = some (.deferred (some [])) → Q .normal { a with defers := { target := .collected D, args := #[] } :: a.defers } W)
    (hstop : ∀ (D : Nat) (c : Code) (pre : List α) (W : World), w.heap.size ≤ D → Sp pre → Ix c pre W → W.heap[D]? = some (.deferred (some [])) → c.wpIn F n P Q { a with defers := { target := .collected D, args := #[] } :: a.defers } W) :
    (Code.rangeFunc g ps assign body).wpIn F n P Q a w := by
  refine wpIn_rangeFunc fun fn hfn => ?_
  rw [hro]
  obtain ⟨D, hD⟩ : ∃ D, D = w.heap.size := ⟨_, rfl⟩
  obtain ⟨lp, hlp⟩ : ∃ lp : LoopState → Option Code → Loop, lp = fun st pe => { state := st, pending := pe, fn, tmps := a.tmps, params := ps, assign, body, defers := D } := ⟨_, rfl⟩
  obtain ⟨V, hV⟩ : ∃ V, V = (w.alloc (.deferred (some []))).alloc (.loop (lp .ready none)) := ⟨_, rfl⟩
  -- what the two blocks of the loop hold: D the deferred calls, D + 1 the loop in state s
  obtain ⟨Bk, hBk⟩ : ∃ Bk : Loop → World → Prop, Bk = fun q W => W.heap[D + 1]? = some (.loop q) ∧ W.heap[D]? = some (.deferred (some [])) := ⟨_, rfl⟩
  have bkV : Bk (lp .ready none) V := by
    rw [hBk, hV, hD]
    refine ⟨?_, (Below.heap_alloc _ _ _ (by simp)).trans (World.alloc_heap_new w _)⟩
    have := World.alloc_heap_new (w.alloc (.deferred (some []))) (.loop (lp .ready none))
    rwa [World.size_alloc] at this
  have bkP : ∀ q q' W, Bk q W → Bk q' (W.putObj (D + 1) (.loop q')) := by
    intro q q' W h
    rw [hBk] at h ⊢
    exact ⟨World.putObj_heap_same (Array.getElem?_eq_some_iff.1 h.1).1, (World.putObj_heap_other (by omega)).trans h.2⟩
  have bkO : ∀ q X Y, Bk q X → KeepsOthers X Y → Bk q Y := by
    intro q X Y h k
    rw [hBk] at h ⊢
    exact ⟨k.same _ _ h.1 rfl, k.same _ _ h.2 rfl⟩
  have bkW : ∀ q X Y row, Bk q X → X.grownBy Y row → (∀ r, row = some r → V.heap.size ≤ r ∧ ∃ o : Obj, X.heap[r]? = some o ∧ o.isWalk = true) → Bk q Y := by
    intro q X Y row h hg hr
    rw [hBk] at h ⊢
    exact ⟨(grownBy_keeps hg (fun r e => (hr r e).2) h.1 rfl).trans h.1, (grownBy_keeps hg (fun r e => (hr r e).2) h.2 rfl).trans h.2⟩
  have bkB : ∀ q X Y, Bk q X → X.grownBy Y (some bb) → Bk q Y := by
    intro q X Y h hg
    rw [hBk] at h ⊢
    exact ⟨(hg.block _ (Array.getElem?_eq_some_iff.1 h.1).1 (by simp; omega)).trans h.1, (hg.block _ (Array.getElem?_eq_some_iff.1 h.2).1 (by simp; omega)).trans h.2⟩
  have hzV : V.heap.size = D + 2 := by rw [hV, World.size_alloc, World.size_alloc, hD]
  have IV : I [] V := by rw [hV]; exact hI.alloc _ (hI.alloc _ h0)
  have bV : Below w.heap.size w V := by rw [hV]; exact ((Below.refl _ w).alloc (Nat.le_refl _) _).alloc (by simp) _
  have own : ∀ {X : World} {row : Option Nat}, (∀ r, row = some r → V.heap.size ≤ r ∧ ∃ o : Obj, X.heap[r]? = some o ∧ o.isWalk = true) → (∀ r, row = some r → w.heap.size ≤ r ∧ ∃ o : Obj, X.heap[r]? = some o ∧ o.isCells = false) := by
    intro X row hr r e
    obtain ⟨hB, o, ho, hw⟩ := hr r e
    exact ⟨by omega, o, ho, Obj.not_cells_of_walk hw⟩
  have IP : ∀ s q q' W, I s W → Bk q W → I s (W.putObj (D + 1) (.loop q')) := by
    intro s q q' W hi hb
    rw [hBk] at hb
    exact hI.putObj _ hi (by omega) hb.1 rfl
  have XP : ∀ c s q q' W, Ix c s W → Bk q W → Ix c s (W.putObj (D + 1) (.loop q')) := by
    intro c s q q' W hi hb
    rw [hBk] at hb
    exact (hIx c).putObj _ hi (by omega) hb.1 rfl
  have hend : ∀ (jump : Option Code) (W : World), Bk { lp .ready none with state := .busy } W →
      (Instr.endRound (D + 1) jump).run P W = .ok (.bool jump.isNone) (W.putObj (D + 1) (.loop (lp (if jump.isNone then .ready else .done) jump))) := by
    intro jump W hb
    rw [hBk] at hb
    have := run_endRound (P := P) jump hb.1
    rw [hlp] at this ⊢
    exact this
  refine ⟨D + 1, [{ target := .collected D, args := #[] }], V, { target := .fn (.func gf) lb, args := #[.func (.yield (D + 1)) #[] #[]] }, V, gf, #[.func (.yield (D + 1)) #[] #[]] ++ lb, V,
    by rw [hV, hlp, hD]; exact run_enterLoop_outer _ _ _ _ _, by simp only [resolve, hg]; simp [go_sem], fun f' hf' => by simp [Target.leads] at hf'; subst hf'; exact hFg, by simp [invoke, go_sem, eg], fun _ => h1, ?_⟩
  refine (hseq (D + 1) (fun pre W => I pre W ∧ Bk (lp .ready none) W) (fun pre W => ∃ c, Ix c pre W ∧ Bk (lp .done (some c)) W) V bV
    (fun s X Y row hs hg hr => ⟨hI s X Y row hs.1 hg (own hr), bkW _ _ _ _ hs.2 hg hr⟩)
    (fun s X Y hs hg => ⟨hIb s X Y hs.1 hg, bkB _ _ _ hs.2 hg⟩)
    (fun s X Y row ⟨c, hc, hk⟩ hg hr => ⟨c, hIx c s X Y row hc hg (own hr), bkW _ _ _ _ hk hg hr⟩) ?_ ⟨IV, bkV⟩).mono ?_
  · rintro pre x W ⟨hi, hk⟩ hx
    have hk' := hk
    rw [hBk] at hk
    have hy := run_yield (P := P) (args := encs x) hk.1 (by rw [hlp]; exact hps x)
    rw [hlp] at hy
    refine ⟨fn, _, assign, body, hy, roundIn_of_wpIn hfn (hassign _ x W _ ⟨_, run_beginRound hk.1 (by rw [hlp]), ?_⟩)⟩
    have hk2 := bkP _ { lp .ready none with state := .busy } _ hk'
    refine wpIn_mono (hbody _ pre x _ (IP _ _ _ _ hi hk') (hR _ _ _ _ _ _ hx hk.1 rfl)) ?_
    rintro e a3 W3 hp
    cases e with
    | normal =>
      have hk3 := bkO _ _ _ hk2 hp.1
      have hk3' := hk3
      rw [hBk] at hk3'
      exact ⟨_, _, hend none W3 hk3, .inl ⟨rfl, ⟨IP _ _ _ _ hp.2.2 hk3, bkP _ _ _ hk3⟩, hKt (hKb W (D + 1) _ _ (by omega) hk.1 rfl rfl) (hKt hp.2.1 (hKb W3 (D + 1) _ _ (by omega) hk3'.1 rfl rfl))⟩⟩
    | ret =>
      have hk3 := bkO _ _ _ hk2 hp.1
      exact ⟨_, _, hend (some .ret) W3 hk3, .inr ⟨rfl, .ret, XP _ _ _ _ _ hp.2 hk3, bkP _ _ _ hk3⟩⟩
    | exit id =>
      have hk3 := bkO _ _ _ hk2 hp.1
      exact ⟨_, _, hend (some (.exit id)) W3 hk3, .inr ⟨rfl, .exit id, XP _ _ _ _ _ hp.2 hk3, bkP _ _ _ hk3⟩⟩
    | goto t =>
      have hk3 := bkO _ _ _ hk2 hp.1
      exact ⟨_, _, hend (some (.goto t)) W3 hk3, .inr ⟨rfl, .goto t, XP _ _ _ _ _ hp.2 hk3, bkP _ _ _ hk3⟩⟩
    | panic ch => exact hp.elim
    | outgrown => exact hp.elim
  · rintro e W2 ⟨⟨v, rfl⟩, (⟨xs, hS, hi, hk⟩ | ⟨pre, hSp, c, hi, hk⟩)⟩
    · have hk' := hk
      rw [hBk] at hk
      exact ⟨none, _, by have := run_endLoop (P := P) hk.1 (by rw [hlp]; simp); rw [hlp] at this; exact this, hdone _ xs _ (by omega) hS (IP _ _ _ _ hi hk') ((World.putObj_heap_other (by omega)).trans hk.2)⟩
    · have hk' := hk
      rw [hBk] at hk
      exact ⟨some c, _, by have := run_endLoop (P := P) hk.1 (by rw [hlp]; simp); rw [hlp] at this; exact this, hstop _ c pre _ (by omega) hSp (XP _ _ _ _ _ hi hk') ((World.putObj_heap_other (by omega)).trans hk.2)⟩

end Go.Proofs.YtaeamlldocbeeaaDoor
