/- Bits and bytes at the base 2^32. -/
import Derived.Test.YtaeamlldocbeeaaNum3
namespace Go.Proofs.Ytaeamlldocbeeaa.Num

theorem pow_V (q : Nat) : 4294967296 ^ q = 2 ^ (32 * q) := by
  rw [show (4294967296 : Nat) = 2 ^ 32 from rfl, ← Nat.pow_mul]

theorem bitLen_digitsV {xs : List Nat} {k : Nat} (hd : Dg 4294967296 xs) (hk : xs.length = k + 1) (h0 : xs[k] ≠ 0) :
    bitLen (val 4294967296 xs) = 32 * k + bitLen xs[k] := by
  have e : val 4294967296 xs / 2 ^ (32 * k) = xs[k] := by
    rw [← pow_V, val_div_pow (by omega) hd, val_drop _ _ _ (by omega), List.drop_of_length_le (by omega)]
    simp [val]
  rw [← e]
  exact bitLen_shift _ _ (by rw [e]; exact h0)

/-- one bit of a number, out of the digit that holds it -/
theorem bit_digitV {xs : List Nat} (h : Dg 4294967296 xs) (q k : Nat) (hk : k < 32) :
    val 4294967296 xs / 2 ^ (32 * q + k) % 2 = xs.getD q 0 / 2 ^ k % 2 := by
  rw [Nat.pow_add, ← Nat.div_div_eq_div_mul, ← pow_V, val_div_pow (by omega) h, drop_getD]
  have hW : (4294967296 : Nat) = 2 ^ k * (2 * 2 ^ (31 - k)) := by
    rw [Nat.mul_comm 2, ← Nat.pow_succ, ← Nat.pow_add, show k + (31 - k + 1) = 32 by omega]
  generalize val 4294967296 (xs.drop (q + 1)) = r
  generalize xs.getD q 0 = d
  rw [hW, Nat.mul_assoc, Nat.add_mul_div_left _ _ (Nat.two_pow_pos k), Nat.mul_assoc, Nat.add_mul_mod_self_left]

theorem pow_V256 (p : Nat) : 4294967296 ^ p = 256 ^ (4 * p) := by
  rw [show (4294967296 : Nat) = 256 ^ 4 from rfl, ← Nat.pow_mul]

/-- one byte more, the highest first -/
theorem fb_stepV (zs : List Nat) (V c n i k p r o : Nat) (hk : k + 1 + i = n) (hkp : k = 4 * p + r) (hr : r < 4) (hc : c < 256)
    (hp : p < zs.length) (ho : zs[p] = o) (dz : Dg 4294967296 zs) (hv : val 4294967296 zs = V * 256 ^ (n - i)) :
    (o ||| (c * 2 ^ (r * 8))) = o + c * 2 ^ (r * 8) ∧ o + c * 2 ^ (r * 8) < 4294967296 ∧
    val 4294967296 (zs.set p (o + c * 2 ^ (r * 8))) = (V * 256 + c) * 256 ^ (n - (i + 1)) := by
  have hni : n - i = 4 * p + (r + 1) := by omega
  have hW : (4294967296 : Nat) = 256 ^ (r + 1) * 256 ^ (3 - r) := by rw [← Nat.pow_add, show r + 1 + (3 - r) = 4 by omega]
  have ho2 : o = 256 ^ (r + 1) * (V % 256 ^ (3 - r)) := by
    have e1 := val_div_pow (B := 4294967296) (by omega) dz p
    rw [val_drop _ _ _ hp, ho] at e1
    have e2 : o = val 4294967296 zs / 4294967296 ^ p % 4294967296 := by
      rw [e1, Nat.add_mul_mod_self_left, Nat.mod_eq_of_lt]
      rw [← ho]; exact dz.at p hp
    rw [e2, hv, hni, pow_V256, Nat.pow_add, Nat.mul_comm V, Nat.mul_assoc, Nat.mul_div_cancel_left _ (Nat.pow_pos (by omega))]
    conv => lhs; rw [hW]
    rw [Nat.mul_mod_mul_left]
  have hy : c * 2 ^ (r * 8) < 256 ^ (r + 1) := by
    rw [← pow_256, Nat.pow_succ, Nat.mul_comm]
    exact Nat.mul_lt_mul_of_pos_left hc (Nat.pow_pos (by omega))
  refine ⟨?_, ?_, ?_⟩
  · rw [ho2, Nat.or_comm]
    rw [pow_256 (r + 1)] at hy ⊢
    rw [or_low _ _ _ hy]
    exact Nat.add_comm _ _
  · have h1 : V % 256 ^ (3 - r) < 256 ^ (3 - r) := Nat.mod_lt _ (Nat.pow_pos (by omega))
    have h2 : 256 ^ (r + 1) * (V % 256 ^ (3 - r) + 1) ≤ 256 ^ (r + 1) * 256 ^ (3 - r) := Nat.mul_le_mul_left _ h1
    rw [← hW, Nat.mul_add, ← ho2] at h2
    omega
  · have e1 := val_set 4294967296 zs p (o + c * 2 ^ (r * 8)) hp
    rw [ho, Nat.mul_add] at e1
    have e3 : val 4294967296 (zs.set p (o + c * 2 ^ (r * 8))) = val 4294967296 zs + 4294967296 ^ p * (c * 2 ^ (r * 8)) := by omega
    rw [e3, hv, hni, ← pow_256, pow_V256, Nat.mul_left_comm, ← Nat.pow_add, show n - (i + 1) = 4 * p + r by omega, show 4 * p + (r + 1) = 4 * p + r + 1 by omega, Nat.pow_succ, Nat.add_mul, Nat.mul_assoc V, Nat.mul_comm 256]

/-- one byte of a number, out of the digit that holds it -/
theorem byte_digitV {xs : List Nat} (h : Dg 4294967296 xs) (p r : Nat) (hr : r < 4) :
    val 4294967296 xs / 256 ^ (4 * p + r) % 256 = xs.getD p 0 / 2 ^ (r * 8) % 256 := by
  rw [Nat.pow_add, ← Nat.div_div_eq_div_mul, ← pow_V256, val_div_pow (by omega) h, drop_getD, ← pow_256]
  have hW : (4294967296 : Nat) = 256 ^ r * (256 * 256 ^ (3 - r)) := by
    rw [Nat.mul_comm 256, ← Nat.pow_succ, ← Nat.pow_add, show r + (3 - r + 1) = 4 by omega]
  generalize val 4294967296 (xs.drop (p + 1)) = q
  generalize xs.getD p 0 = d
  rw [hW, Nat.mul_assoc, Nat.add_mul_div_left _ _ (Nat.pow_pos (by omega)), Nat.mul_assoc, Nat.add_mul_mod_self_left]


theorem bitLen_half (t : Nat) (h : 0 < t) : bitLen t = bitLen (t / 2) + 1 := by
  have h1 : ∀ k, bitLen t ≤ k + 1 ↔ bitLen (t / 2) ≤ k := by
    intro k
    rw [bitLen_le, bitLen_le, Nat.pow_succ]
    omega
  have h2 : 0 < bitLen t := (lt_bitLen t 0).2 (by rw [Nat.pow_zero]; exact h)
  have a1 := (h1 (bitLen t - 1)).1 (by omega)
  have a2 := (h1 (bitLen (t / 2))).2 (Nat.le_refl _)
  omega

theorem beN_cons (n v : Nat) : beN (n + 1) v = (v / 256 ^ n % 256) :: beN n v := by
  unfold beN
  rw [List.range_succ_eq_map, List.map_cons, List.map_map]
  congr 1
  apply List.map_congr_left
  intro i _
  simp only [Function.comp]
  rw [show n + 1 - 1 - (i + 1) = n - 1 - i by omega]

theorem beN_pad (n k v : Nat) (hv : v < 256 ^ k) (hk : k ≤ n) : beN n v = List.replicate (n - k) 0 ++ beN k v := by
  obtain ⟨d, rfl⟩ : ∃ d, n = k + d := ⟨n - k, by omega⟩
  rw [show k + d - k = d by omega]
  clear hk
  induction d with
  | zero => simp
  | succ d ih =>
    rw [← Nat.add_assoc, beN_cons, ih, List.replicate_succ, List.cons_append]
    congr 1
    rw [Nat.div_eq_of_lt, Nat.zero_mod]
    exact Nat.lt_of_lt_of_le hv (Nat.pow_le_pow_right (by omega) (by omega))

end Go.Proofs.Ytaeamlldocbeeaa.Num
