/- Plain arithmetic of the reference's digits (base 2^32) against limbs (base 2^64). -/
import Derived.Test.YtaeamlldocbeeaaNum6
namespace Go.Proofs.Ytaeamlldocbeeaa.Num

theorem pow_VW (i : Nat) : 4294967296 ^ (2 * i) = 18446744073709551616 ^ i := by
  rw [Nat.pow_mul]

theorem eq_dig {B : Nat} (hB : 1 < B) {zs : List Nat} (h : Dg B zs) {v : Nat} (hv : val B zs = v) (hl : zs.length = (dig B v).length) : zs = dig B v := by
  have e := dig_of_val B hB h v hv
  have e2 : tlen zs = zs.length := by
    have := congrArg List.length e
    rw [List.length_take, Nat.min_eq_left (tlen_le zs)] at this
    omega
  rw [← e, e2, List.take_length]

/-- how many limbs a number has, out of its digits -/
theorem limbs_of_digits (v : Nat) : (dig 18446744073709551616 v).length = ((dig 4294967296 v).length + 1) / 2 := by
  have h1 := dig_length_le 4294967296 (by omega) (dig 4294967296 v).length v
  have h2 := lt_dig_length 4294967296 (by omega) ((dig 4294967296 v).length - 1) v
  generalize (dig 4294967296 v).length = L at *
  have hlt := h1.1 (Nat.le_refl _)
  apply Nat.le_antisymm
  · rw [dig_length_le _ (by omega), ← pow_VW]
    exact Nat.lt_of_lt_of_le hlt (Nat.pow_le_pow_right (by omega) (by omega))
  · rcases Nat.eq_zero_or_pos L with h | h
    · subst h; exact Nat.zero_le _
    · have hge := h2.1 (by omega)
      have := (lt_dig_length 18446744073709551616 (by omega) ((L + 1) / 2 - 1) v).2 (by
        rw [← pow_VW]
        exact Nat.le_trans (Nat.pow_le_pow_right (by omega) (by omega)) hge)
      omega

theorem set_grow2 (zs : List Nat) (i N s t : Nat) (hz : zs.length = i) (h : i + 1 < N) :
    ((zs ++ List.replicate (N - i) 0).set i s).set (i + 1) t = (zs ++ [s, t]) ++ List.replicate (N - (i + 2)) 0 := by
  rw [set_grow zs i N s 0 hz (by omega), set_grow (zs ++ [s]) (i + 1) N t 0 (by rw [List.length_append, hz]; rfl) h]
  simp

theorem val_two (B : Nat) (xs : List Nat) (s t : Nat) : val B (xs ++ [s, t]) = val B xs + B ^ xs.length * (s + B * t) := by
  rw [val_append]; simp [val]

end Go.Proofs.Ytaeamlldocbeeaa.Num
