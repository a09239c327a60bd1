/- Proved: whatever its arguments (each slice nil too), ModBig answers true and leaves them as they were; no condition. -/
import Derived.Test.YtaeamlldocbeeaaFrame
import Derived.Test.YtaeamlldocbeeaaWalkBig
namespace Go.Proofs.Ytaeamlldocbeeaa
open Go.ChangeShapes Go.WideShapes Go.ChangeAt Go.RowKit

set_option maxRecDepth 100000 in
set_option maxHeartbeats 800000 in
theorem modBig_lifted (os : Os) (started : os.Started) (H : Type) (enc : TypeId × Value → H) :
    ReturnsInHanded {} Try.checked os 11 .any (Rows.modBigSpec.pre6 enc Try.prog Try.f11 Rows.modBigRow.domain false) (Rows.modBigSpec.post enc Try.prog Try.f11 false true false false) := by
  refine returnsInHanded_of_change (C := Try.checked) own started (by kernel_rfl) Try.func11
    (ChangeSpec.witness6 (enc := enc) (C := Try.checked) false ⟨#[], #[.int .i64 0], []⟩ 8 (by kernel_rfl) (by kernel_rfl) (by kernel_rfl) (by kernel_rfl)) ?_
  intro W base args ds gs before hval0 hW _ _
  have hval : ∀ (j : Nat) t v, Try.f11.params[j]? = some t → args[j]? = some v → Value.okWide Try.prog W .any base t v := hval0
  have hW' := hW
  obtain ⟨p, q, hA0, hV, rfl, _, _⟩ := hW
  have hA : DataW.TrodAll enc Try.prog W 0 (fun _ => true) true Try.f11.params.toList args.toList ds p := hA0
  rw [Try.params11] at hA hval
  obtain ⟨v0, d0, rfl, rfl, h0⟩ := trodAll_one hA
  obtain ⟨rfl, rfl⟩ := trodVars_none hV
  have h0k := h0
  obtain ⟨i0, rfl, rfl, rfl, w0⟩ := open_int Try.underlying3 (hval 0 3 v0 rfl rfl) h0
  clear hA0 hval0
  simp only [List.append_nil] at hW'
  have f0 := wf_i64_in _ w0
  refine (mbig_law i0 f0).mono fun e W' ⟨he, hb⟩ => ?_
  subst he
  have hargs : DataW.TrodAll enc Try.prog W' 0 (fun b => decide (b < W.heap.size)) true [3] [.int .i64 i0] [.lit (.int .i64 i0)] ([]) := by
    exact trodAll_mk1 (shut_int Try.underlying3 w0)
  exact ⟨_, rfl, _, _, _, [], _, [], hW', trodAll_mk1 (shut_bool Try.underlying4 _), hargs, rfl, hb.frame _, fun h => by cases h⟩

theorem modBig_holds : Rows.ModBigSaid :=
  OpenClaim.holds_of_wide 11 Try.f11 rfl rfl rfl rfl rfl rfl rfl ⟨rfl, rfl, rfl, rfl, rfl⟩ rfl rfl rfl rfl rfl (by kernel_rfl) Try.func11 (by kernel_rfl)
    (of_decide_eq_true (by kernel_rfl)) (by unfold Func.isWrapper; first | (rw [if_pos (by decide +kernel)]; kernel_rfl) | (rw [if_neg (by decide +kernel)]; exact ⟨rfl, rfl⟩))
    (fun os started H enc _ => modBig_lifted os started H enc)

#print axioms modBig_holds
end Go.Proofs.Ytaeamlldocbeeaa
