/- RefB: Ref4, Ref5. -/
import Derived.Test.YtaeamlldocbeeaaDoorRefA
import Derived.Test.YtaeamlldocbeeaaDoorLimbA

/- baileyref1: Sub. -/

namespace Go.Proofs.YtaeamlldocbeeaaDoor
open Go.RowKit Num

end Go.Proofs.YtaeamlldocbeeaaDoor

/- baileyref1: Mul. -/

namespace Go.Proofs.YtaeamlldocbeeaaDoor
open Go.RowKit Num

theorem u64_mul_in (a b : Nat) (h : a * b < 18446744073709551616) (c : Nat) (hc : c = a * b) : IntKind.u64.wrap ((a : Int) * (b : Int)) = (c : Int) := by
  rw [IntKind.wrap_u64, ← Int.natCast_mul]; omega

theorem rmul_place (B x y o c : Nat) (hx : x < B) (hy : y < B) (ho : o < B) (hc : c < B) (s lo hi : Nat) (hs : s = x * y + o + c) (h1 : lo = s % B) (h2 : hi = s / B) :
    s < B * B ∧ lo < B ∧ hi < B ∧ lo + B * hi = x * y + o + c := by
  have e5 : x * y ≤ (B - 1) * (B - 1) := Nat.mul_le_mul (by omega) (by omega)
  have e6 : (B - 1) * (B - 1) + (B - 1) + (B - 1) < B * B := by
    obtain ⟨m, rfl⟩ : ∃ m, B = m + 1 := ⟨B - 1, by omega⟩
    rw [Nat.add_sub_cancel, Nat.mul_add, Nat.add_mul]; omega
  have e7 : s < B * B := by omega
  refine ⟨e7, by rw [h1]; exact Nat.mod_lt _ (by omega), by rw [h2]; exact Nat.div_lt_of_lt_mul e7, by rw [h1, h2, ← hs]; exact Nat.mod_add_div _ _⟩

end Go.Proofs.YtaeamlldocbeeaaDoor
