/- Proved: whatever its arguments (each slice nil too), LimbShift answers true and leaves them as they were; no condition. -/
import Derived.Test.YtaeamlldocbeeaaFrame
import Derived.Test.YtaeamlldocbeeaaWalkShift
namespace Go.Proofs.Ytaeamlldocbeeaa
open Go.ChangeShapes Go.WideShapes Go.ChangeAt Go.RowKit

open Num in
theorem shift_all {a1 : Option Addr} {n1 c1 : Nat} {xs : List Nat} {w : World} (h1 : Sl .u64 w a1 n1 c1 xs) (hd1 : Dg 18446744073709551616 xs) (m : Int) (hm : -9223372036854775808 ≤ m ∧ m ≤ 9223372036854775807)
    (i : Int) (hi : -9223372036854775808 ≤ i ∧ i ≤ 9223372036854775807) (most : Int) (_ : -9223372036854775808 ≤ most ∧ most ≤ 9223372036854775807) :
    Calls Try.prog 4 #[.slice a1 n1 c1, .int .i64 m, .int .i64 i, .int .i64 most] w (GivesBool w true) :=
  shift_law h1 hd1 m i most (by omega) hm

set_option maxRecDepth 100000 in
set_option maxHeartbeats 800000 in
theorem limbShift_lifted (os : Os) (started : os.Started) (H : Type) (enc : TypeId × Value → H) :
    ReturnsInHanded {} Try.checked os 4 .any (Rows.limbShiftSpec.pre6 enc Try.prog Try.f4 Rows.limbShiftRow.domain false) (Rows.limbShiftSpec.post enc Try.prog Try.f4 false true false false) := by
  refine returnsInHanded_of_change (C := Try.checked) own started (by kernel_rfl) Try.func4
    (ChangeSpec.witness6 (enc := enc) (C := Try.checked) false ⟨#[], #[.slice none 0 0, .int .i64 0, .int .i64 0, .int .i64 0], []⟩ 8 (by kernel_rfl) (by kernel_rfl) (by kernel_rfl) (by kernel_rfl)) ?_
  intro W base args ds gs before hval0 hW _ _
  have hval : ∀ (j : Nat) t v, Try.f4.params[j]? = some t → args[j]? = some v → Value.okWide Try.prog W .any base t v := hval0
  have hW' := hW
  obtain ⟨p, q, hA0, hV, rfl, _, _⟩ := hW
  have hA : DataW.TrodAll enc Try.prog W 0 (fun _ => true) true Try.f4.params.toList args.toList ds p := hA0
  rw [Try.params4] at hA hval
  obtain ⟨v0, v1, v2, v3, d0, d1, d2, d3, p0, p1, p2, p3, rfl, rfl, rfl, h0, h1, h2, h3⟩ := trodAll_four hA
  obtain ⟨rfl, rfl⟩ := trodVars_none hV
  obtain ⟨a0, len0, cap0, rfl⟩ := okWide_slice Try.underlying23 (hval 0 23 v0 rfl rfl)
  have h1k := h1
  obtain ⟨i1, rfl, rfl, rfl, w1⟩ := open_int Try.underlying3 (hval 1 3 v1 rfl rfl) h1
  have h2k := h2
  obtain ⟨i2, rfl, rfl, rfl, w2⟩ := open_int Try.underlying3 (hval 2 3 v2 rfl rfl) h2
  have h3k := h3
  obtain ⟨i3, rfl, rfl, rfl, w3⟩ := open_int Try.underlying3 (hval 3 3 v3 rfl rfl) h3
  clear hA0 hval0
  simp only [List.append_nil] at hW'
  have hlt : ∀ x ∈ p0, x.block < W.heap.size := fun x hx => by simpa using hW'.lt x hx
  have harg0 : ∀ (W' : World), Below W.heap.size W W' → DataW.Trod enc Try.prog W' 0 (fun b => decide (b < W.heap.size)) true 23 (.slice a0 len0 cap0) d0 p0 :=
    fun W' hn => Below.trod laidOut (by kernel_rfl) (of_decide_eq_true (by kernel_rfl)) h0 hn (fun x hx => hlt x (by simp [hx]))
  obtain ⟨x0, s0, g0⟩ := openedNat h0
  have f1 := wf_i64_in _ w1
  have f2 := wf_i64_in _ w2
  have f3 := wf_i64_in _ w3
  refine (shift_all s0 g0 i1 f1 i2 f2 i3 f3).mono fun e W' ⟨he, hb⟩ => ?_
  subst he
  have hargs : DataW.TrodAll enc Try.prog W' 0 (fun b => decide (b < W.heap.size)) true [23, 3, 3, 3] [.slice a0 len0 cap0, .int .i64 i1, .int .i64 i2, .int .i64 i3] [d0, .lit (.int .i64 i1), .lit (.int .i64 i2), .lit (.int .i64 i3)] (p0) := by
    have := trodAll_mk4 (harg0 _ hb) (shut_int Try.underlying3 w1) (shut_int Try.underlying3 w2) (shut_int Try.underlying3 w3)
    simpa using this
  exact ⟨_, rfl, _, _, _, [], _, [], hW', trodAll_mk1 (shut_bool Try.underlying4 _), hargs, rfl, hb.frame _, fun h => by cases h⟩

theorem limbShift_holds : Rows.LimbShiftSaid :=
  OpenClaim.holds_of_wide 4 Try.f4 rfl rfl rfl rfl rfl rfl rfl ⟨rfl, rfl, rfl, rfl, rfl⟩ rfl rfl rfl rfl rfl (by kernel_rfl) Try.func4 (by kernel_rfl)
    (of_decide_eq_true (by kernel_rfl)) (by unfold Func.isWrapper; first | (rw [if_pos (by decide +kernel)]; kernel_rfl) | (rw [if_neg (by decide +kernel)]; exact ⟨rfl, rfl⟩))
    (fun os started H enc _ => limbShift_lifted os started H enc)

#print axioms limbShift_holds
end Go.Proofs.Ytaeamlldocbeeaa
