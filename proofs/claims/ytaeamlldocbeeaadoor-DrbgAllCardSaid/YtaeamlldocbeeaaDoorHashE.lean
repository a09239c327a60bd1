/- hashes: Write. -/
import Derived.Test.YtaeamlldocbeeaaDoorHashD
namespace Go.Proofs.YtaeamlldocbeeaaDoor
open Go.RowKit Go.Shelf Num

/-- as wpList_app; only the slice's own block may turn -/
theorem wpList_appG {P : Program} {w : World} {ops : Array Oper} {rest : List Oper} {o : Oper} {a : Act} {Q : Exit → Act → World → Prop}
    (hg : o.guard = none) (s x : Operand) (t : TypeId) (hop : o.op = .call { callee := .builtin .append, args := #[s, x], argTypes := #[t, t] })
    (e : TypeId) (k : IntKind) (bytes : Nat) (h1 : P.underlying t = some (.slice e)) (h2 : (P.info? e).map (fun i => (i.zero, i.size, i.bytes)) = some (some (.int k 0), 1, bytes))
    (B : Nat) (hB : B ≤ w.heap.size) (a1 : Option Addr) (n1 c1 : Nat) (xs : List Nat) (hs : a.eval s = .slice a1 n1 c1) (hown : Own k e B w a1 n1 c1 xs)
    (a2 : Option Addr) (n2 c2 : Nat) (ys : List Nat) (hx : a.eval x = .slice a2 n2 c2) (hsl : Sl k w a2 n2 c2 ys)
    (hbytes : (n1 + n2) * bytes ≤ 140737488355328) (h63 : n1 + n2 ≤ 9223372036854775807)
    (hK : ∀ a3 c3 w', Own k e B w' a3 (n1 + n2) c3 (xs ++ ys) → w.grownBy w' (Value.slice a1 n1 c1).ownBlock → wpList P ops Q rest (a.put o.dst (.slice a3 (n1 + n2) c3)) w') :
    wpList P ops Q (o :: rest) a w := by
  obtain ⟨i, hi, hz, hsz, hb⟩ := info_parts h2
  cases a2 with
  | none =>
    obtain rfl : c2 = 0 := hsl.nil rfl
    obtain rfl : n2 = 0 := by have := hsl.le; omega
    obtain rfl : ys = [] := List.eq_nil_of_length_eq_zero hsl.len
    refine wpList_plain hg fun K hK' => ?_
    have hrun := run_append_owned_none (P := P) w B t o.type e i 1 h1 hi _ n1 _ hown.owns
    unfold Oper.wp
    simp [execOp, hop, resolve, invoke, builtin, hs, hx, hrun, Result.andThen]
    refine hK' _ _ (hK a1 c1 w ?_ (grown_refl _ _))
    rw [List.append_nil]
    exact hown
  | some p =>
    by_cases hc0 : c2 = 0
    · subst hc0
      obtain rfl : n2 = 0 := by have := hsl.le; omega
      obtain rfl : ys = [] := List.eq_nil_of_length_eq_zero hsl.len
      refine wpList_plain hg fun K hK' => ?_
      have hrun := run_append_none_at (P := P) w B t o.type e i 1 h1 hi _ n1 _ hown.owns p
      unfold Oper.wp
      simp [execOp, hop, resolve, invoke, builtin, hs, hx, hrun, Result.andThen]
      refine hK' _ _ (hK a1 c1 w ?_ (grown_refl _ _))
      rw [List.append_nil]
      exact hown
    obtain ⟨b, q, sp⟩ := p
    have hsp := hsl.spot _ rfl (by omega)
    simp at hsp
    subst hsp
    refine wpList_append_own w hg s x t hop B e i (.int k 0) 1 bytes h1 hi hz hsz hb rfl (by omega) _ n1 (U k xs) hs hown.owns ⟨b, q, none⟩ n2 c2 (U k ys) hx
      (by rw [U_length, hsl.len, Nat.mul_one]) ?_ (U_oneCell k ys) (by unfold maxLen; omega) hbytes hB ?_
    · intro j u hu
      rw [Addr.add_lit]
      rw [U_get] at hu
      obtain ⟨y, hy, rfl⟩ := Option.map_eq_some_iff.1 hu
      obtain ⟨hj, rfl⟩ := List.getElem?_eq_some_iff.1 hy
      exact hsl.cell j hj
    · intro v' w' hr hgr _
      rw [← U_append] at hr
      obtain ⟨a3, c3, rfl, ho⟩ := Own.ofOwns hr
      exact hK a3 c3 w' ho hgr

theorem boxedV (w : World) (T : TypeId) (v : Value) : ∃ W b, W = w.alloc (Obj.cells #[v] T) ∧ b = w.heap.size ∧ Row W b T [v] ∧ Below w.heap.size w W ∧ W.heap.size = b + 1 :=
  ⟨_, _, rfl, rfl, heap_alloc_new _ _, below_alloc _ (Nat.le_refl _), World.size_alloc _ _⟩

theorem Own.ne_row {k : IntKind} {T T' : TypeId} {B hb : Nat} {w : World} {a : Option Addr} {n c : Nat} {xs : List Nat} {vs : List Value} (h : Own k T B w a n c xs) (hr : Row w hb T' vs) (hT : T ≠ T') : ∀ p, a = some p → p.block ≠ hb := by
  intro p e hp
  rcases h.row with ⟨e', _⟩ | ⟨b', ys, e', _, _, _, hk⟩
  · rw [e'] at e; cases e
  · rw [e'] at e
    cases e
    simp only at hp
    subst hp
    unfold Row at hr hk
    rw [hr] at hk
    simp at hk
    exact hT hk.2.symm

theorem Own.kept' {k : IntKind} {T : TypeId} {B hb : Nat} {w w' : World} {a : Option Addr} {n c : Nat} {xs : List Nat} (h : Own k T B w a n c xs) (hg : w.grownBy w' (some hb)) (hne : ∀ p, a = some p → p.block ≠ hb) : Own k T B w' a n c xs := by
  refine ⟨h.len, ?_⟩
  rcases h.row with h1 | ⟨b', ys, e', h2, h3, h4, hk⟩
  · exact .inl h1
  · have hlt := (Array.getElem?_eq_some_iff.1 hk).1
    exact .inr ⟨b', ys, e', h2, h3, h4, (hg.block b' hlt (by have := hne _ e'; simpa using this)).trans hk⟩

theorem Sl.grownRow {k : IntKind} {W W' : World} {a : Option Addr} {n c b : Nat} {T : TypeId} {vs : List Value} {xs : List Nat} (h : Sl k W a n c xs) (hr : Row W b T vs) (hv : ∀ v, v ∈ vs → ∀ x : Int, v ≠ .int k x) (hg : W.grownBy W' (some b)) : Sl k W' a n c xs := by
  refine ⟨h.len, h.le, h.cap, h.nil, h.spot, fun i hi => ?_⟩
  obtain ⟨b', o', e, hc⟩ := h.rd i hi
  refine ⟨b', o', e, ?_⟩
  by_cases hb : b' = b
  · subst hb
    rw [Row.cell hr] at hc
    exact absurd rfl (hv _ (List.mem_of_getElem? hc) _)
  · rw [World.cell?_of_block (hg.block b' (cell_lt hc) (by simpa using hb))]
    exact hc

theorem Row.grownR {w w' : World} {b : Nat} {T : TypeId} {vs : List Value} {r : Option Nat} (h : Row w b T vs) (hg : w.grownBy w' r) (hne : some b ≠ r) : Row w' b T vs :=
  (hg.block b h.lt hne).trans h

theorem own_block_ne {a : Option Addr} {n c hb : Nat} (h : ∀ p, a = some p → p.block ≠ hb) : some hb ≠ (Value.slice a n c).ownBlock := by
  cases a with
  | none => simp [Value.ownBlock]
  | some p => simp only [Value.ownBlock]; intro e; cases e; exact h p rfl rfl

theorem KTab.lt {w : World} (h : KTab w) : 3 < w.heap.size := cell_lt (h 0 (by omega))

theorem KTab.grownR {w w' : World} {r : Option Nat} (h : KTab w) (hg : w.grownBy w' r) (hne : some 3 ≠ r) : KTab w' := by
  intro i hi
  have h3 := hg.block 3 h.lt hne
  rw [show (3 : Nat) = 3 from rfl]
  rw [World.cell?_of_block (a := ⟨3, i, none⟩) h3]
  exact h i hi

theorem KTab.ne {w : World} {hb : Nat} {T : TypeId} {vs : List Value} (h : KTab w) (hr : Row w hb T vs) (hv : ∀ x : Int, vs[0]? ≠ some (.int .u64 x)) : hb ≠ 3 := by
  rintro rfl
  have := h 0 (by omega)
  rw [show (3 : Nat) = 3 from rfl, Row.cell hr] at this
  exact hv _ this

theorem Row.cellsAt {W : World} {b : Nat} {T : TypeId} {vs : List Value} (h : Row W b T vs) : ∀ (j : Nat) (o : Obj), some b = some j → W.heap[j]? = some o → o.isCells = true := by
  intro j o e ho
  cases e
  unfold Row at h
  rw [h] at ho
  cases ho
  rfl

theorem o2_ext {w X Y : World} {g1 g2 : Nat} {row : Option Nat} (h : Only2 w X g1 g2) (hg : X.grownBy Y row) (hr : ∀ r, row = some r → r = g1 ∨ r = g2 ∨ w.heap.size ≤ r) : Only2 w Y g1 g2 := by
  refine ⟨fun B h1 h2 h3 => (h.below B h1 h2 h3).trans ⟨hg.os, hg.tape, hg.output, hg.size, fun k hk => ?_⟩, fun b hb h1 h2 => ?_, Nat.le_trans h.size hg.size⟩
  · refine hg.block k (by have := h.size; omega) ?_
    intro e
    rcases hr k e.symm with h4 | h4 | h4 <;> omega
  · refine (hg.block b (Nat.lt_of_lt_of_le hb h.size) ?_).trans (h.same b hb h1 h2)
    intro e
    rcases hr b e.symm with h4 | h4 | h4 <;> omega

theorem Own.grownR {k : IntKind} {T : TypeId} {B : Nat} {w w' : World} {a : Option Addr} {n c : Nat} {xs : List Nat} {row : Option Nat} (h : Own k T B w a n c xs) (hg : w.grownBy w' row) (hr : ∀ r, row = some r → ∃ o : Obj, w.heap[r]? = some o ∧ o.isCells = false) : Own k T B w' a n c xs := by
  refine ⟨h.len, ?_⟩
  rcases h.row with h1 | ⟨b', ys, e', h2, h3, h4, hk⟩
  · exact .inl h1
  · have hlt := (Array.getElem?_eq_some_iff.1 hk).1
    refine .inr ⟨b', ys, e', h2, h3, h4, (hg.block b' hlt ?_).trans hk⟩
    intro e
    obtain ⟨o, ho, hc⟩ := hr b' e.symm
    unfold Row at hk
    rw [hk] at ho
    cases ho
    cases hc

/-- nothing below S but one block has turned -/
structure KpH (S hb : Nat) (A C : World) : Prop where
  size : A.heap.size ≤ C.heap.size
  same : ∀ k, k < S → k ≠ hb → C.heap[k]? = A.heap[k]?

theorem KpH.trans {S hb : Nat} {X Y Z : World} (h : KpH S hb X Y) (k : KpH S hb Y Z) : KpH S hb X Z :=
  ⟨Nat.le_trans h.size k.size, fun b h1 h2 => (k.same b h1 h2).trans (h.same b h1 h2)⟩

theorem KpH.put {S hb : Nat} {w : World} (hn : S ≤ w.heap.size) (W : World) (l : Nat) (o o' : Obj) (hl : w.heap.size ≤ l) (h : W.heap[l]? = some o) (h1 : o.isCells = false) (h2 : o.isWalk = false) : KpH S hb W (W.putObj l o') := by
  have := belowK_b (n₀ := S) hn W l o o' hl h h1 h2
  exact ⟨this.size, fun b hb _ => this.block b hb⟩

theorem KpH.chAt {S hb nB bb bd : Nat} {A C : World} {a : Option Addr} {n c : Nat} {xs : List Nat} (hk : KpH S hb A C) (h : ChAt nB bb bd a n c xs A) (h1 : nB < S ∧ nB ≠ hb) (h2 : bb < S ∧ bb ≠ hb) (h3 : bd < S ∧ bd ≠ hb) : ChAt nB bb bd a n c xs C := by
  refine ⟨?_, (hk.same bb h2.1 h2.2).trans h.row, ?_, h.ne⟩
  · rw [World.cell?_of_block (hk.same nB h1.1 h1.2)]
    exact h.cn
  · have hs := h.sl
    refine ⟨hs.len, hs.le, hs.cap, hs.nil, hs.spot, fun i hi => ?_⟩
    obtain ⟨b', o', e, hc⟩ := hs.rd i hi
    refine ⟨b', o', e, ?_⟩
    have hbd := h.ne _ e
    simp only at hbd
    subst hbd
    rw [World.cell?_of_block (hk.same b' h3.1 h3.2)]
    exact hc

/-- the iterator of Chunks, from a world in which its boxes lie -/
theorem chunk_seq (nB bb bd hb : Nat) (all : List Nat) (w0 : World) (a : Option Addr) (n c : Nat) (hal : all.length ≤ 70368744177664) (hnb : nB ≠ bb) (hbd : bd ≠ bb) (h1 : nB < w0.heap.size ∧ nB ≠ hb) (h2 : bb < w0.heap.size ∧ bb ≠ hb) (h3 : bd < w0.heap.size ∧ bd ≠ hb) (hc : ChAt nB bb bd a n c all w0) :
    SeqB Fence.wide 3 Tryd.prog 89 #[.pointer (some ⟨nB, 0, none⟩), .pointer (some ⟨bb, 0, none⟩)] pcEnc (PcR w0.heap.size all) (KpH w0.heap.size hb) (fun ys => all.length ≤ 64 * ys.length) (fun _ => True) bb w0 := by
  intro l J Jx W hW hJ hJb _ hY h0
  exact chunk_in l nB bb bd w0.heap.size all (KpH w0.heap.size hb) (fun A C a n c xs hk h => hk.chAt h h1 h2 h3) J Jx hal hnb hbd (fun s X Y hs hg => hJ s X Y none hs hg (fun r e => by cases e)) hJb hY (fun A C h => h.size) W a n c (hc.keep hW) hW.size h0

/-- a hash of SHA-256: its words, what waits, how much was written -/
structure HSt (w : World) (hb : Nat) (H xs : List Nat) (n : Nat) (a : Option Addr) (nw cw : Nat) : Prop where
  row : sha256_hash hb w 3 H (.slice a nw cw) n
  own : Own .u8 5 4 w a nw cw xs
  hH : H.length = 8
  hHd : Dg 4294967296 H
  hx : Dg 256 xs

/-- k blocks taken in -/
def taken (H all : List Nat) : Nat → List Nat
  | 0 => H
  | k + 1 => compress (taken H all k) (chunk all k)

theorem addAll_len : ∀ (H V : List Nat), H.length = V.length → (addAll H V).length = H.length
  | [], [], _ => rfl
  | _ :: r, _ :: s, h => by
    rw [addAll, List.length_cons, List.length_cons, addAll_len r s (by simpa using h)]

theorem addAll_dg : ∀ (H V : List Nat), Dg 4294967296 (addAll H V)
  | [], [] => Dg.nil
  | [], _ :: _ => Dg.nil
  | _ :: _, [] => Dg.nil
  | a :: r, b :: s => Dg.cons (add32_lt a b) (addAll_dg r s)

theorem compress_len {H B : List Nat} (h : H.length = 8) : (compress H B).length = 8 := by
  unfold compress
  rw [addAll_len _ _ (rounds_length _ _ _).symm, h]

theorem taken_len {H all : List Nat} (h : H.length = 8) (k : Nat) : (taken H all k).length = 8 := by
  cases k with
  | zero => exact h
  | succ k => induction k with
    | zero => exact compress_len h
    | succ k ih => exact compress_len ih

theorem taken_dg {H all : List Nat} (h : Dg 4294967296 H) (k : Nat) : Dg 4294967296 (taken H all k) := by
  cases k with
  | zero => exact h
  | succ k => exact addAll_dg _ _

/-- in the range: k blocks have been taken in -/
structure WI (w0 : World) (hb bb bx : Nat) (H all : List Nat) (N k : Nat) (W : World) : Prop where
  row : sha256_hash hb W 3 (taken H all k) (.slice none 0 0) N
  box : Row W bx 88 [.pointer (some ⟨hb, 0, none⟩)]
  kt : KTab W
  le : 64 * k ≤ all.length
  o2 : Only2 w0 W hb bb

theorem WI.ext {w0 X Y : World} {hb bb bx : Nat} {H all : List Nat} {N k : Nat} {row : Option Nat} (h : WI w0 hb bb bx H all N k X) (hg : X.grownBy Y row) (hr : ∀ r, row = some r → r = bb ∨ w0.heap.size ≤ r)
    (h1 : hb < w0.heap.size ∧ hb ≠ bb) (h2 : bx < w0.heap.size ∧ bx ≠ bb) (h3 : 3 < w0.heap.size ∧ 3 ≠ bb) : WI w0 hb bb bx H all N k Y := by
  have ne : ∀ b, b < w0.heap.size ∧ b ≠ bb → some b ≠ row := by
    intro b hb e
    rcases hr b e.symm with h4 | h4 <;> omega
  exact ⟨Row.grownR h.row hg (ne _ h1), h.box.grownR hg (ne _ h2), h.kt.grownR hg (ne _ h3), h.le, o2_ext h.o2 hg (fun r e => (hr r e).elim (fun e => .inr (.inl e)) (fun e => .inr (.inr e)))⟩

/-- left in the range: the rest waits -/
structure WX (w0 : World) (hb bb : Nat) (H all : List Nat) (N k : Nat) (W : World) : Prop where
  ex : ∃ a r c, sha256_hash hb W 3 (taken H all k) (.slice a r c) N ∧ Own .u8 5 w0.heap.size W a r c (chunk all k)
  lt : (chunk all k).length < 64
  le : 64 * k ≤ all.length
  o2 : Only2 w0 W hb bb

theorem WX.ext {w0 X Y : World} {hb bb : Nat} {H all : List Nat} {N k : Nat} {row : Option Nat} (h : WX w0 hb bb H all N k X) (hg : X.grownBy Y row) (hr : ∀ r, row = some r → w0.heap.size ≤ r ∧ ∃ o : Obj, X.heap[r]? = some o ∧ o.isCells = false)
    (h1 : hb < w0.heap.size) : WX w0 hb bb H all N k Y := by
  obtain ⟨a, r, c, hrow, hown⟩ := h.ex
  refine ⟨⟨a, r, c, Row.grownR hrow hg (fun e => ?_), hown.grownR hg (fun r e => (hr r e).2)⟩, h.lt, h.le, o2_ext h.o2 hg (fun r e => .inr (.inr (hr r e).1))⟩
  have := (hr _ e.symm).1
  omega

theorem o2_tail {w w6 W : World} {g1 g2 bb : Nat} (h : Only2 w w6 g1 g2) (k : Only2 w6 W g1 bb) (hb : w.heap.size ≤ bb) : Only2 w W g1 g2 :=
  ⟨fun B h1 h2 h3 => (h.below B h1 h2 h3).trans (k.below B h1 (by omega) (by have := h.size; omega)), fun b h1 h2 h3 => (k.same b (by have := h.size; omega) h2 (by omega)).trans (h.same b h1 h2 h3), Nat.le_trans h.size k.size⟩

/-- what is left behind a Write -/
def GivesWrite (w : World) (hb : Nat) (H all : List Nat) (N : Nat) (a : Option Addr) (e : Ending) (w' : World) : Prop :=
  (∃ v, e = .returned v) ∧ ∃ a' n' c', HSt w' hb (taken H all (all.length / 64)) (all.drop (64 * (all.length / 64))) N a' n' c' ∧ (∀ p, a' = some p → w.heap.size ≤ p.block) ∧
    Only2 w w' hb ((a.map (·.block)).getD hb)

attribute [local go_sem] Oper.semAt_some

set_option maxRecDepth 100000 in
set_option maxHeartbeats 4000000 in
theorem write_any {hb n nw cw ny cy : Nat} {a ay : Option Addr} {H xs ys : List Nat} {w : World} (h : HSt w hb H xs n a nw cw) (hy : Sl .u8 w ay ny cy ys) (hd : Dg 256 ys) (hk : KTab w) (hn : n + ny < 70368744177664) (hnw : nw + ny ≤ 70368744177664) :
    Calls Tryd.prog 68 #[.pointer (some ⟨hb, 0, none⟩), .slice ay ny cy] w (GivesWrite w hb H (xs ++ ys) (n + ny) a) := by
  obtain ⟨row, own, hH, hHd, hx⟩ := h
  obtain ⟨h0, h1, h2, h3, h4, h5, h6, h7, rfl⟩ := list8 hH
  refine (callsIn_wide (n := 4)).1 ?_
  refine callsIn_of_wp_marks Tryd.func68 rfl trivial ?_ rfl
  simp only [Tryd.ntmps68, List.size_toArray, List.length_cons, List.length_nil, Nat.reduceAdd, Nat.reduceSub, Array.replicate_succ, Array.replicate_zero, List.push_toArray, List.append_toArray, List.nil_append, List.cons_append]
  refine wpIn_wide.2 ?_
  go_upto_region 1 with (fail)
  obtain ⟨W1, bx, hW1, hbx, rx, l1, z1⟩ := boxedV w 88 (.pointer (some ⟨hb, 0, none⟩))
  rw [← hW1, ← hbx]
  have hbB : w.heap.size ≤ bx := by omega
  have row1 : Row W1 hb 112 [.int .i64 3, .int .u64 (h0 : Int), .int .u64 (h1 : Int), .int .u64 (h2 : Int), .int .u64 (h3 : Int), .int .u64 (h4 : Int), .int .u64 (h5 : Int), .int .u64 (h6 : Int), .int .u64 (h7 : Int), .slice a nw cw, .int .u64 (n : Int)] := Row.keep row l1
  have hltb : hb < w.heap.size := Row.lt row
  have own1 : Own .u8 5 4 W1 a nw cw xs := own.keep l1
  have hy1 := hy.keep l1
  have cx : W1.cell? ⟨bx, 0, none⟩ = some (.pointer (some ⟨hb, 0, none⟩)) := rx.cell0
  have c10 : W1.cell? ⟨hb, 10, none⟩ = some (.int .u64 (n : Int)) := row1.cell 10
  have f1 := row1.frozen
  have en : IntKind.u64.wrap ((n : Int) + (ny : Int)) = ((n + ny : Nat) : Int) := by rw [IntKind.wrap_u64]; omega
  have hnbx : hb ≠ bx := by omega
  have hnbx2 : bx ≠ hb := by omega
  have hk1 : KTab W1 := hk.keep l1
  have hb3 : hb ≠ 3 := hk1.ne row1 (by simp)
  have hb3' : some 3 ≠ some hb := by simp; omega
  clear hW1 hbx row
  go_upto_region 3 with (fail)
  have g2 : W1.grownBy (W1.setCell ⟨hb, 10, none⟩ (.int .u64 ((n : Int) + (ny : Int)))) (some hb) := grown_set (grown_refl _ _) 10 _
  have row2 := row1.set 10 (.int .u64 ((n : Int) + (ny : Int)))
  have own2 := own1.kept' g2 (own1.ne_row row1 (by decide))
  have hy2 := hy1.grownRow row1 (by simp) g2
  have rx2 := rx.grown g2 hnbx2
  have hk2 := hk1.grownR g2 hb3'
  have h4z : 4 ≤ (W1.setCell ⟨hb, 10, none⟩ (.int .u64 ((n : Int) + (ny : Int)))).heap.size := hk2.lt
  generalize W1.setCell ⟨hb, 10, none⟩ (.int .u64 ((n : Int) + (ny : Int))) = W2 at *
  simp only [List.set] at row2
  have cx2 : W2.cell? ⟨bx, 0, none⟩ = some (.pointer (some ⟨hb, 0, none⟩)) := rx2.cell0
  have c9 : W2.cell? ⟨hb, 9, none⟩ = some (.slice a nw cw) := row2.cell 9
  clear cx c10 f1 row1 own1 hy1 rx
  go_upto_region 4 with (at_builtin; refine wpList_appG rfl (.tmp 22) (.tmp 23) 22 rfl 5 .u8 1 under_bytes info_u8 4 h4z a nw cw xs rfl own2 _ _ _ _ rfl hy2 (by omega) (by omega) ?_; intro a3 c3 W3 own3 g3)
  have hnO := own2.ne_row row2 (by decide)
  have row3 := row2.grownR g3 (own_block_ne hnO)
  have rx3 := rx2.grownR g3 (own_block_ne (own2.ne_row rx2 (by decide)))
  have hk3 : KTab W3 := hk2.grownR g3 (own_block_ne (by
    intro p e
    rcases own2.row with ⟨e', _⟩ | ⟨b', ys, e', h4, _⟩
    · rw [e'] at e; cases e
    · rw [e'] at e; cases e; simp; omega))
  have cx3 : W3.cell? ⟨bx, 0, none⟩ = some (.pointer (some ⟨hb, 0, none⟩)) := rx3.cell0
  have c93 : W3.cell? ⟨hb, 9, none⟩ = some (.slice a nw cw) := row3.cell 9
  have f3 := row3.frozen
  clear cx2 c9
  go_upto_region 5 with (fail)
  have g4 : W3.grownBy (W3.setCell ⟨hb, 9, none⟩ (.slice none 0 0)) (some hb) := grown_set (grown_refl _ _) 9 _
  have row4 := row3.set 9 (.slice none 0 0)
  have own4 := own3.kept' g4 (own3.ne_row row3 (by decide))
  have rx4 := rx3.grown g4 hnbx2
  have hk4 := hk3.grownR g4 hb3'
  have hne4 := own3.ne_row row3 (by decide)
  generalize W3.setCell ⟨hb, 9, none⟩ (.slice none 0 0) = W4 at *
  simp only [List.set] at row4
  have cx4 : W4.cell? ⟨bx, 0, none⟩ = some (.pointer (some ⟨hb, 0, none⟩)) := rx4.cell0
  have c04 : W4.cell? ⟨hb, 0, none⟩ = some (.int .i64 3) := row4.cell 0
  clear cx3 c93 f3
  go_upto_region 6 with (first
    | (go_at_call 65; (with_reducible refine (hblock_any _).mono ?_); rintro e w' ⟨rfl, rfl⟩)
    | (go_at_call 75; (with_reducible refine (chunks_any).mono ?_); rintro e W5 ⟨rfl, hW5⟩))
  obtain ⟨W5', bb, hW5', hbb, rb5, l5, z5⟩ := boxedV W4 22 (.slice a3 (nw + ny) c3)
  obtain ⟨W6, nB, hW6, hnB, rn6, l6, z6⟩ := boxedV W5' 3 (.int .i64 64)
  rw [← hbb, ← hW5', ← hW6]
  obtain rfl : nB = bb + 1 := by omega
  have l56 := l5.trans (l6.mono l5.size)
  have row6 := row4.keep l56
  have rx6 := rx4.keep l56
  have hk6 := hk4.keep l56
  have own6 := own4.keep l56
  have rb6 := rb5.keep l6
  have hbl4 : hb < W4.heap.size := row4.lt
  have hbx4 : bx < W4.heap.size := rx4.lt
  have h34 := hk4.lt
  obtain ⟨bd, hbd1, hbd2, hbd3⟩ : ∃ bd, bd < W4.heap.size ∧ bd ≠ hb ∧ (∀ p, a3 = some p → p.block = bd) := by
    rcases own4.row with ⟨e', _⟩ | ⟨b', zs, e', h4, _, _, hr4⟩
    · exact ⟨bx, hbx4, hnbx2, fun p e => by rw [e'] at e; cases e⟩
    · exact ⟨b', Row.lt hr4, hne4 _ e', fun p e => by rw [e'] at e; cases e; rfl⟩
  have hal : (xs ++ ys).length ≤ 70368744177664 := by rw [List.length_append, own.len, hy.len]; exact hnw
  have hCh : ChAt (bb + 1) bb bd a3 (nw + ny) c3 (xs ++ ys) W6 := ⟨rn6.cell0, rb6, own6.sl, hbd3⟩
  have hdall : Dg 256 (xs ++ ys) := hx.append hd
  have hbbW : W4.heap.size = bb := hbb.symm
  have hI0 : WI W6 hb bb bx [h0, h1, h2, h3, h4, h5, h6, h7] (xs ++ ys) (n + ny) 0 W6 := ⟨row6, rx6, hk6, Nat.zero_le _, Only2.refl _ _ _⟩
  have o6 : Only2 w W6 hb ((a.map (·.block)).getD hb) := by
    have o1 : Only2 w W1 hb ((a.map (·.block)).getD hb) := o2_ext (Only2.refl w _ _) (below_grown l1 none) (by intro r e; cases e)
    have o2 := o2_ext o1 g2 (by intro r e; cases e; exact .inl rfl)
    have o3 := o2_ext o2 g3 (by
      intro r e
      cases a with
      | none => cases e
      | some p => cases e; exact .inr (.inl rfl))
    have o4 := o2_ext o3 g4 (by intro r e; cases e; exact .inl rfl)
    exact o2_ext o4 (below_grown l56 none) (by intro r e; cases e)
  have hwbb : w.heap.size ≤ bb := by have := l1.size; have := g2.size; have := g3.size; have := g4.size; omega
  have hw6 : w.heap.size ≤ W6.heap.size := o6.size
  generalize xs ++ ys = all at *
  clear hW5' hW6 hW5 hbb hnB
  go_wp2
  refine (wpIn_wide (n := 4)).1 ?_
  refine wpIn_rangeB (n := 4) (encs := pcEnc) (R := PcR W6.heap.size all) (Kp := KpH W6.heap.size hb) (S := fun ys => all.length ≤ 64 * ys.length) (Sp := fun _ => True) (bb := bb) rfl (by omega) (gf := 89) (lb := #[.pointer (some ⟨bb + 1, 0, none⟩), .pointer (some ⟨bb, 0, none⟩)]) rfl trivial (enters_of Tryd.func89 (by kernel_rfl) rfl)
    (chunk_seq (bb + 1) bb bd hb all W6 a3 _ c3 hal (by omega) (by omega) (by omega) (by omega) (by omega) hCh) (by omega) (fun h k => h.trans k) (KpH.put (Nat.le_refl _)) (fun _ => rfl)
    (fun pre x W l o o' hx hl hc => ⟨hx.i, hx.lt, hx.own.grownR (grownBy_putObj' W l o') (fun r e => by cases e; exact ⟨o, hl, hc⟩)⟩)
    (fun pre W => WI W6 hb bb bx [h0, h1, h2, h3, h4, h5, h6, h7] all (n + ny) pre.length W)
    (fun c pre W => c = Code.ret ∧ 1 ≤ pre.length ∧ WX W6 hb bb [h0, h1, h2, h3, h4, h5, h6, h7] all (n + ny) (pre.length - 1) W)
    (fun s X Y row hs hg hr => hs.ext hg (fun r e => .inr (hr r e).1) (by omega) (by omega) (by omega))
    (fun s X Y hs hg => hs.ext hg (fun r e => by cases e; exact .inl rfl) (by omega) (by omega) (by omega))
    (fun c s X Y row hs hg hr => ⟨hs.1, hs.2.1, hs.2.2.ext hg hr (by omega)⟩)
    hI0 ?a1 ?assign ?body ?done ?stop
  case assign =>
    intro l x W K hK
    dsimp only [pcEnc]
    gi_wp2
    exact hK
  case body =>
    rintro l pre x W hwi hpc
    obtain ⟨i, pa, pn, pc⟩ := x
    have hpi := hpc.i
    have hlt := hpc.lt
    have hown := hpc.own
    simp only at hpi hown
    have hplen : (chunk all pre.length).length = pn := hown.len
    have cx : W.cell? ⟨bx, 0, none⟩ = some (.pointer (some ⟨hb, 0, none⟩)) := hwi.box.cell0
    have hrw := hwi.row
    have c0 : W.cell? ⟨hb, 0, none⟩ = some (.int .i64 3) := Row.cell hrw 0
    have htl : (taken [h0, h1, h2, h3, h4, h5, h6, h7] all pre.length).length = 8 := taken_len rfl _
    have HP := mkHid hplen
    by_cases h64 : pn < 64
    · have t1 : decide ((pn : Int) < 64) = true := decide_eq_true (by omega)
      obtain ⟨t0, t1', t2, t3, t4, t5, t6, t7, hte⟩ := list8 htl
      unfold sha256_hash at hrw
      rw [hte] at hrw
      have c9 : W.cell? ⟨hb, 9, none⟩ = some (.slice none 0 0) := Row.cell hrw 9
      have f9 := Row.frozen hrw 9
      clear hplen hlt hpi
      gi_wp2_with (refine ⟨trivial, ?_⟩; gi_at_call 65; refine (callsIn_wide.2 (hblock_any _)).mono ?_; rintro e' w5 ⟨rfl, rfl⟩)
      have g := grown_set (grown_refl W (some hb)) 9 (.slice pa pn pc)
      have hr9 := Row.set hrw 9 (.slice pa pn pc)
      have e1 : (pre ++ [(⟨i, pa, pn, pc⟩ : Pc)]).length - 1 = pre.length := by simp
      refine ⟨KeepsOthers.of_grownBy g (Row.cellsAt hrw), rfl, by simp, ?_⟩
      rw [e1]
      refine ⟨⟨pa, pn, pc, ?_, hown.kept' g (hown.ne_row hrw (by decide))⟩, by rw [HP.out]; exact h64, hwi.le, o2_ext hwi.o2 g (fun r e => by cases e; exact .inl rfl)⟩
      unfold sha256_hash
      rw [hte]
      exact hr9
    · have t1 : decide ((pn : Int) < 64) = false := decide_eq_false (by omega)
      have hp64 : pn = 64 := by
        have : (chunk all pre.length).length ≤ 64 := List.length_take_le _ _
        omega
      subst hp64
      have hchd : Dg 256 (chunk all pre.length) := (hdall.drop _).take _
      have htk := take_any hown.sl hchd hrw htl (taken_dg hHd _) hwi.kt
      have HT := mkHid htk
      clear htk hplen hlt hpi
      gi_wp2_with (first
        | (refine ⟨trivial, ?_⟩; gi_at_call 65; refine (callsIn_wide.2 (hblock_any _)).mono ?_; rintro e' w5 ⟨rfl, rfl⟩)
        | (refine ⟨trivial, ?_⟩; gi_at_call 76; refine (callsIn_wide.2 HT.out).mono ?_; rintro e' w5 ⟨⟨v, rfl⟩, hh5, hg5⟩))
      refine ⟨KeepsOthers.of_grownBy hg5 (Row.cellsAt hwi.row), ⟨hg5.size, fun k hk hne => hg5.block k (by have := hwi.o2.size; omega) (by simpa using hne)⟩, ?_⟩
      show WI W6 hb bb bx [h0, h1, h2, h3, h4, h5, h6, h7] all (n + ny) (pre ++ [(⟨i, pa, 64, pc⟩ : Pc)]).length w5
      rw [List.length_append, List.length_singleton]
      refine ⟨hh5, hwi.box.grown hg5 hnbx2, hwi.kt.grownR hg5 hb3', ?_, o2_ext hwi.o2 hg5 (fun r e => by cases e; exact .inl rfl)⟩
      have := HP.out
      unfold chunk at this
      rw [List.length_take, List.length_drop] at this
      omega
  case done =>
    rintro D ps W hD hS hwi hK
    have hlen : all.length / 64 = ps.length := by have := hwi.le; omega
    go_wp2
    refine ⟨by simp, .inl ⟨_, _, rfl, run_takeDeferred hK, ?_⟩⟩
    have hgD := grownBy_putObj' W D (.deferred none)
    refine ⟨_, results_none rfl _ _ _, ⟨_, rfl⟩, none, 0, 0, ⟨?_, ?_, taken_len rfl _, taken_dg hHd _, hdall.drop _⟩, (fun p e => by cases e), o2_ext (o2_tail o6 hwi.o2 hwbb) hgD (fun r e => by cases e; exact .inr (.inr (by omega)))⟩
    · rw [hlen]
      exact Row.grownR hwi.row hgD (by simp; omega)
    · rw [List.drop_eq_nil_of_le (by omega)]
      exact Own.nilOwn _ _ _ _
  case stop =>
    rintro D c pre W hD _ ⟨rfl, hp1, hwx⟩ hK
    obtain ⟨ax, rx', cx', hrow, hown⟩ := hwx.ex
    have hlt := hwx.lt
    have hch : chunk all (pre.length - 1) = all.drop (64 * (pre.length - 1)) := by
      refine List.take_of_length_le ?_
      unfold chunk at hlt
      rw [List.length_take] at hlt
      omega
    have hlen : all.length / 64 = pre.length - 1 := by
      have h9 := hwx.le
      rw [hch, List.length_drop] at hlt
      omega
    rw [hch, ← hlen] at hown
    rw [← hlen] at hrow
    have ho2 := hwx.o2
    have hown4 : Own .u8 5 4 W ax rx' cx' (all.drop (64 * (all.length / 64))) := hown.mono (by have := hk6.lt; omega)
    have hfresh : ∀ p, ax = some p → w.heap.size ≤ p.block := by
      intro p e
      rcases hown.row with ⟨e', _⟩ | ⟨b', zs, e', hB, _⟩
      · rw [e'] at e; cases e
      · rw [e'] at e; cases e; exact Nat.le_trans hw6 hB
    clear hwx hlt hch hlen hown hp1
    gi_wp2
    go_wp2
    refine ⟨by simp, .inl ⟨_, _, rfl, run_takeDeferred hK, ?_⟩⟩
    have hgD := grownBy_putObj' W D (.deferred none)
    refine ⟨_, results_none rfl _ _ _, ⟨_, rfl⟩, ax, rx', cx', ⟨Row.grownR hrow hgD (by simp; omega), hown4.grownR hgD (fun r e => by cases e; exact ⟨_, hK, rfl⟩), taken_len rfl _, taken_dg hHd _, hdall.drop _⟩, hfresh, o2_ext (o2_tail o6 ho2 hwbb) hgD (fun r e => by cases e; exact .inr (.inr (by omega)))⟩

end Go.Proofs.YtaeamlldocbeeaaDoor
