/- modarith: Probable over Few. -/
import Derived.Test.YtaeamlldocbeeaaMod6
namespace Go.Proofs.Ytaeamlldocbeeaa
open Go.RowKit Go.Shelf Num

/-- is it probably a prime, by the first twelve primes? -/
def probB (N : Nat) : Bool := if N % 2 = 0 ∨ N < 2 then decide (N = 2) else mayB [N] && fewL.all (strongB N)

theorem under_seq1 : Try.prog.underlying 86 = some (.func #[99] #[] false) := by kernel_rfl

/-- a slice of numbers behind a change of a box that holds no number -/
theorem Sl.grownBox {k : IntKind} {W W' : World} {a : Option Addr} {n c b : Nat} {T : TypeId} {v : Value} {xs : List Nat} (h : Sl k W a n c xs) (hr : Row W b T [v]) (hv : ∀ x : Int, v ≠ .int k x) (hg : W.grownBy W' (some b)) : Sl k W' a n c xs := by
  refine ⟨h.len, h.le, h.cap, h.nil, h.spot, fun i hi => ?_⟩
  obtain ⟨b', o, e, hc⟩ := h.rd i hi
  refine ⟨b', o, e, hg.cell hc ?_⟩
  intro e2
  cases e2
  have := hr.cell (o + i)
  rw [hc] at this
  cases hoi : o + i with
  | zero => rw [hoi] at this; simp at this; exact hv _ this.symm
  | succ j => rw [hoi] at this; simp at this

theorem Nm.grownBox {W W' : World} {a : Option Addr} {n c b m u : Nat} {T : TypeId} {v : Value} (h : Nm W a n c m u) (hr : Row W b T [v]) (hv : ∀ x : Int, v ≠ .int .u64 x) (hg : W.grownBy W' (some b)) : Nm W' a n c m u := by
  obtain ⟨xs, h1, h2, h3⟩ := h.ex
  exact ⟨⟨xs, h1.grownBox hr hv hg, h2, h3⟩, h.lt, h.hm, h.hn⟩

theorem all_few {N : Nat} (h : ∀ i, i < 12 → strongB N (fewL.getD i 0) = true) : fewL.all (strongB N) = true := by
  rw [List.all_eq_true]
  intro x hx
  obtain ⟨i, hi, rfl⟩ := List.getElem_of_mem hx
  have := h i hi
  rwa [List.getD, List.getElem?_eq_getElem hi] at this

theorem not_all_few {N i : Nat} (hi : i < 12) (h : strongB N (fewL.getD i 0) = false) : fewL.all (strongB N) = false := by
  rw [← Bool.not_eq_true, List.all_eq_true]
  intro hc
  have hl : i < fewL.length := hi
  have := hc fewL[i] (List.getElem_mem hl)
  rw [List.getD, List.getElem?_eq_getElem hl] at h
  rw [Option.getD_some] at h
  rw [h] at this
  cases this

attribute [local go_sem] Oper.semAt_some

section
variable {w : World} {a1 : Option Addr} {n1 c1 m u : Nat}

theorem prob_no (h : Nm w a1 n1 c1 m u) (R : Bool) (hc : ∀ W, Nm W a1 n1 c1 m u → Calls Try.prog 80 #[.slice a1 n1 c1] W (GivesBB W false R)) (hR : probB u = R) :
    Calls Try.prog 77 #[.slice a1 n1 c1, .func (.func 90) #[] #[]] w (GivesBool w (probB u)) := by
  rw [hR]
  clear hR
  refine (callsIn_wide (n := 4)).1 ?_
  refine callsIn_of_wp_marks Try.func77 rfl trivial ?_ rfl
  simp only [Try.ntmps77, List.size_toArray, List.length_cons, List.length_nil, Nat.reduceAdd, Nat.reduceSub, Array.replicate_succ, Array.replicate_zero, List.push_toArray, List.append_toArray, List.nil_append, List.cons_append]
  refine wpIn_wide.2 ?_
  go_upto_region 1 with (fail)
  obtain ⟨W1, b2, hW1, hb2, r2, l1, z1⟩ := boxed w 23 (.slice a1 n1 c1)
  rw [← hW1, ← hb2]
  have HC := mkHid (hc W1 (h.keep l1))
  have c2 := r2.cell0
  clear hW1 hc hb2
  go_step3
  go_wp2_with (first
    | (go_at_call 80; (with_reducible refine HC.out.mono ?_); rintro e w1 ⟨rfl, hb1⟩))
  rw [Exit.noGoto_ret]
  exact ⟨_, results_tmp rfl _ _ _, rfl, l1.trans (hb1.mono l1.size)⟩

set_option maxRecDepth 100000 in
set_option maxHeartbeats 2000000 in
theorem prob_yes (h : Nm w a1 n1 c1 m u) (hm4 : m ≤ 400000) (hu : ¬ (u % 2 = 0 ∨ u < 2)) (hm : mayB [u] = true) :
    Calls Try.prog 77 #[.slice a1 n1 c1, .func (.func 90) #[] #[]] w (GivesBool w (probB u)) := by
  have qT : ∀ (w : World) (f : Fn) (ts lb : Array Value), (binOp .eql 86 (.func f ts lb) .nilFunc).run Try.prog w = .ok (.bool false) w := fun w f ts lb => run_eql_func_nil w 86 _ _ _ f ts lb under_seq1
  have hR : probB u = fewL.all (strongB u) := by unfold probB; rw [if_neg hu, hm, Bool.true_and]
  rw [hR]
  clear hR
  refine (callsIn_wide (n := 4)).1 ?_
  refine callsIn_of_wp_marks Try.func77 rfl trivial ?_ rfl
  simp only [Try.ntmps77, List.size_toArray, List.length_cons, List.length_nil, Nat.reduceAdd, Nat.reduceSub, Array.replicate_succ, Array.replicate_zero, List.push_toArray, List.append_toArray, List.nil_append, List.cons_append]
  refine wpIn_wide.2 ?_
  go_upto_region 1 with (fail)
  obtain ⟨W1, b2, hW1, hb2, r2, l1, z1⟩ := boxed w 23 (.slice a1 n1 c1)
  rw [← hW1, ← hb2]
  have hz0 : w.heap.size ≤ b2 := by omega
  replace h := h.keep l1
  have hc := cand_yes h hu
  rw [hm] at hc
  have HC := mkHid hc
  have c2 := r2.cell0
  clear hW1 hc hm hu hb2
  go_step3
  go_upto_region 4 with (first
    | (go_at_call 80; (with_reducible refine HC.out.mono ?_); rintro e w1 ⟨rfl, hb1⟩))
  go_upto_region 5 with (fail)
  obtain ⟨w0, b7, hW0, hb7, r7, l7, z7⟩ := boxed w1 4 (.bool true)
  rw [← hW0, ← hb7]
  replace h := (h.keep hb1).keep l7
  replace r2 := (r2.keep hb1).keep l7
  have l10 := l1.trans ((hb1.trans (l7.mono hb1.size)).mono l1.size)
  have hz2 : b2 < b7 := by have := hb1.size; omega
  have hz3 : w.heap.size ≤ b7 := by omega
  have hd2 : b2 ≠ b7 := by omega
  clear hW0 hb7 l7 hb1 l1 c2 HC z1
  go_wp2
  go_step3
  go_wp2
  refine (wpIn_wide (n := 4)).1 ?_
  refine wpIn_rangeR (n := 4) (encs := argEnc) (R := FewR) (S := fun ys => ys.length = 12) (Sp := fun _ => True) rfl (by omega) (gf := 90) (lb := #[]) rfl trivial (enters_of Try.func90 (by kernel_rfl) rfl)
    (few_seq w0) (fun _ => rfl) (fun pre x W l o o' hx hl hc => hx.put o' hl hc)
    (fun pre W => (Row W b7 4 [.bool true] ∧ pre.length ≤ 12 ∧ ∀ i, i < pre.length → strongB u (fewL.getD i 0) = true) ∧ w0.grownBy W (some b7))
    (fun c pre W => (c = .exit 0 ∧ Row W b7 4 [.bool false] ∧ fewL.all (strongB u) = false) ∧ w0.grownBy W (some b7))
    (OwnFrom.and (fun s X Y row hs hg hr => ⟨hs.1.kept hg (fun r e => (hr r e).2), hs.2⟩) (ownFrom_grown (Nat.le_refl _)))
    (fun c => OwnFrom.and (fun s X Y row hs hg hr => ⟨hs.1, hs.2.1.kept hg (fun r e => (hr r e).2), hs.2.2⟩) (ownFrom_grown (Nat.le_refl _)))
    ⟨⟨r7, by simp, fun i hi => by simp at hi⟩, grown_refl _ _⟩ ?a1 ?assign ?body ?done ?stop
  case assign =>
    intro l x W K hK
    gi_wp2
    exact hK
  case body =>
    rintro l pre x W ⟨⟨hr, hlen, hall⟩, hg⟩ ⟨hx, hlt, hxv⟩
    have hN := h.grownBox r7 (fun x e => by cases e) hg
    have hr2 := r2.grown hg hd2
    have c2 := hr2.cell0
    have c7 := hr.cell0
    have f7 := hr.frozen0
    obtain ⟨sb, hsb⟩ : ∃ sb, sb = strongB u x.v := ⟨_, rfl⟩
    have hst := strong_any hN hx.nm hm4
    rw [← hsb] at hst
    have HST := mkHid hst
    have HSB := mkHid hsb
    have HALL := mkHid hall
    have HXV := mkHid hxv
    clear hst hsb hall hxv
    have hsz := hg.size
    cases sb with
    | true =>
      gi_wp2_with (refine ⟨trivial, ?_⟩; gi_at_call 47; refine (callsIn_wide.2 HST.out).mono ?_; rintro e' w5 ⟨rfl, hb5⟩)
      have hg5 := grown_of_below hb5 (some b7)
      refine ⟨KeepsOthers.of_grownBy (grown_of_below hb5 none) (fun j o e => by cases e), ⟨hr.keep hb5, by rw [List.length_append, List.length_singleton]; omega, fun i hi => ?_⟩, grown_trans hg hg5⟩
      rw [List.length_append, List.length_singleton] at hi
      by_cases hil : i < pre.length
      · exact HALL.out i hil
      · obtain rfl : i = pre.length := by omega
        rw [← HXV.out]
        exact HSB.out.symm
    | false =>
      gi_wp2_with (refine ⟨trivial, ?_⟩; gi_at_call 47; refine (callsIn_wide.2 HST.out).mono ?_; rintro e' w5 ⟨rfl, hb5⟩; have c75 := (hr.keep hb5).cell0; have f75 := (hr.keep hb5).frozen0)
      have hg5 := grown_trans (grown_of_below hb5 (some b7)) (grown_set (grown_refl w5 (some b7)) 0 (.bool false))
      refine ⟨KeepsOthers.of_grownBy hg5 hr.cellsAt, ⟨rfl, (hr.keep hb5).set0 _, ?_⟩, grown_trans hg hg5⟩
      exact not_all_few hlt (by rw [← HXV.out]; exact HSB.out.symm)
  case done =>
    rintro D ys W hD hlen ⟨⟨hr, _, hall⟩, hg⟩ hK
    have c7 := hr.cell0
    have HA := mkHid (all_few (N := u) (fun i hi => hall i (by rw [hlen]; exact hi)))
    clear hall hlen
    go_wp2
    rw [Exit.noGoto_ret]
    refine ⟨by simp, .inl ⟨_, _, rfl, run_takeDeferred hK, ?_⟩⟩
    refine ⟨_, results_tmp rfl _ _ _, by rw [HA.out]; rfl, (l10.trans (grown_below hg hz3 l10.size)).trans (belowK_b (w := w) (Nat.le_refl _) W D _ _ (by have := l10.size; omega) hK rfl rfl)⟩
  case stop =>
    rintro D c pre W hD _ ⟨⟨rfl, hr, hall⟩, hg⟩ hK
    have c7 := hr.cell0
    have HA := mkHid hall
    clear hall
    gi_wp2
    go_wp2
    rw [Exit.noGoto_ret]
    refine ⟨by simp, .inl ⟨_, _, rfl, run_takeDeferred hK, ?_⟩⟩
    refine ⟨_, results_tmp rfl _ _ _, by rw [HA.out]; rfl, (l10.trans (grown_below hg hz3 l10.size)).trans (belowK_b (w := w) (Nat.le_refl _) W D _ _ (by have := l10.size; omega) hK rfl rfl)⟩

theorem prob_any (h : Nm w a1 n1 c1 m u) (hm4 : m ≤ 400000) :
    Calls Try.prog 77 #[.slice a1 n1 c1, .func (.func 90) #[] #[]] w (GivesBool w (probB u)) := by
  by_cases hu : u % 2 = 0 ∨ u < 2
  · exact prob_no h (decide (u = 2)) (fun W hW => cand_no hW hu) (by unfold probB; rw [if_pos hu])
  · by_cases hm : mayB [u] = true
    · exact prob_yes h hm4 hu hm
    · have hm' : mayB [u] = false := by simpa using hm
      refine prob_no h false ?_ (by unfold probB; rw [if_neg hu, hm']; rfl)
      intro W hW
      have := cand_yes hW hu
      rwa [hm'] at this

end

end Go.Proofs.Ytaeamlldocbeeaa
