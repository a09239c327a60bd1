/- More plain arithmetic of digit lists: shifts down. -/
import Derived.Test.YtaeamlldocbeeaaNum
namespace Go.Proofs.Ytaeamlldocbeeaa.Num

theorem shr_two (d0 d1 r k : Nat) (hk : k < 64) (h0 : d0 < 18446744073709551616) :
    (d0 + 18446744073709551616 * (d1 + 18446744073709551616 * r)) / 2 ^ k % 18446744073709551616 = d0 / 2 ^ k + (d1 * 2 ^ (64 - k)) % 18446744073709551616 := by
  have hW : (18446744073709551616 : Nat) = 2 ^ k * 2 ^ (64 - k) := by rw [← Nat.pow_add, show k + (64 - k) = 64 by omega]
  have hP := Nat.two_pow_pos k
  have hR := Nat.two_pow_pos (64 - k)
  have h2 : d0 / 2 ^ k < 2 ^ (64 - k) := by
    rw [Nat.div_lt_iff_lt_mul hP, Nat.mul_comm, ← hW]; exact h0
  have e1 : (d0 + 18446744073709551616 * (d1 + 18446744073709551616 * r)) / 2 ^ k = d0 / 2 ^ k + 2 ^ (64 - k) * d1 + 18446744073709551616 * (2 ^ (64 - k) * r) := by
    conv => lhs; rw [hW]
    rw [Nat.mul_assoc, Nat.add_mul_div_left _ _ hP, Nat.mul_add, ← hW, Nat.add_assoc, Nat.mul_left_comm]
  rw [e1, Nat.add_mul_mod_self_left, Nat.mul_comm d1]
  have e3 : 2 ^ (64 - k) * d1 % 18446744073709551616 = 2 ^ (64 - k) * (d1 % 2 ^ k) := by
    conv => lhs; rw [hW, Nat.mul_comm (2 ^ k)]
    rw [Nat.mul_mod_mul_left]
  have e4 : d0 / 2 ^ k + 2 ^ (64 - k) * (d1 % 2 ^ k) < 18446744073709551616 := by
    have h3 : d1 % 2 ^ k < 2 ^ k := Nat.mod_lt _ hP
    have h4 : 2 ^ (64 - k) * (d1 % 2 ^ k + 1) ≤ 2 ^ (64 - k) * 2 ^ k := Nat.mul_le_mul_left _ h3
    rw [Nat.mul_comm _ (2 ^ k), ← hW, Nat.mul_add] at h4
    omega
  rw [e3, Nat.add_mod, e3, Nat.mod_eq_of_lt (a := d0 / 2 ^ k) (by have : 2 ^ (64 - k) ≤ 2 ^ 64 := Nat.pow_le_pow_right (by omega) (by omega); omega), Nat.mod_eq_of_lt e4]

theorem val_div_pow {B : Nat} (hB : 1 < B) {xs : List Nat} (h : Dg B xs) (i : Nat) : val B xs / B ^ i = val B (xs.drop i) := by
  by_cases hi : i ≤ xs.length
  · rw [val_take_drop B xs i hi]
    have := val_lt (h.take i)
    rw [List.length_take, Nat.min_eq_left hi] at this
    rw [Nat.add_mul_div_left _ _ (Nat.pow_pos (by omega)), Nat.div_eq_of_lt this, Nat.zero_add]
  · have h1 := val_lt h
    have h2 : B ^ xs.length ≤ B ^ i := Nat.pow_le_pow_right (by omega) (by omega)
    rw [List.drop_of_length_le (by omega), Nat.div_eq_of_lt (by omega)]; rfl

theorem drop_getD (B : Nat) (xs : List Nat) (i : Nat) : val B (xs.drop i) = xs.getD i 0 + B * val B (xs.drop (i + 1)) := by
  by_cases h : i < xs.length
  · rw [val_drop B xs i h]; simp [List.getD, h]
  · rw [List.drop_of_length_le (by omega), List.drop_of_length_le (by omega)]; simp [List.getD, h, val]

theorem shr_digit {xs : List Nat} (h : Dg 18446744073709551616 xs) (i k : Nat) (hk : k < 64) :
    val 18446744073709551616 xs / 2 ^ k / 18446744073709551616 ^ i % 18446744073709551616 =
      xs.getD i 0 / 2 ^ k + (xs.getD (i + 1) 0 * 2 ^ (64 - k)) % 18446744073709551616 ∧
    xs.getD i 0 / 2 ^ k < 2 ^ (64 - k) := by
  have hW2 : (18446744073709551616 : Nat) = 2 ^ (64 - k) * 2 ^ k := by rw [← Nat.pow_add, show 64 - k + k = 64 by omega]
  have hd := h.getD (by omega) i
  have h2 : xs.getD i 0 / 2 ^ k < 2 ^ (64 - k) := by
    rw [Nat.div_lt_iff_lt_mul (Nat.two_pow_pos k), ← hW2]; exact hd
  refine ⟨?_, h2⟩
  rw [Nat.div_div_eq_div_mul, Nat.mul_comm, ← Nat.div_div_eq_div_mul, val_div_pow (by omega) h, drop_getD, drop_getD _ _ (i + 1)]
  exact shr_two _ _ _ _ hk hd


end Go.Proofs.Ytaeamlldocbeeaa.Num
