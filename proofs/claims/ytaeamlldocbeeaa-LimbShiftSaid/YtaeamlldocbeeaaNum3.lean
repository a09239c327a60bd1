/- More plain arithmetic of digit lists: bits and bytes. -/
import Derived.Test.YtaeamlldocbeeaaNum2
import Derived.Laws.MathBits
namespace Go.Proofs.Ytaeamlldocbeeaa.Num

theorem bitLen_zero : bitLen 0 = 0 := rfl

theorem bitLen_le (n k : Nat) : bitLen n ≤ k ↔ n < 2 ^ k := by
  unfold bitLen
  split
  · rename_i h; subst h; simp; exact Nat.two_pow_pos k
  · rename_i h
    rw [← Nat.log2_lt h]
    omega

theorem lt_bitLen (n k : Nat) : k < bitLen n ↔ 2 ^ k ≤ n := by
  have := bitLen_le n k
  omega

theorem bitLen_digits {xs : List Nat} {k : Nat} (hd : Dg 18446744073709551616 xs) (hk : xs.length = k + 1) (h0 : xs[k] ≠ 0) :
    bitLen (val 18446744073709551616 xs) = 64 * k + bitLen xs[k] := by
  have e : val 18446744073709551616 xs / 2 ^ (64 * k) = xs[k] := by
    rw [← pow_W, val_div_pow (by omega) hd, val_drop _ _ _ (by omega), List.drop_of_length_le (by omega)]
    simp [val]
  rw [← e]
  exact bitLen_shift _ _ (by rw [e]; exact h0)

/-- one bit of a number, out of the digit that holds it -/
theorem bit_digit {xs : List Nat} (h : Dg 18446744073709551616 xs) (q k : Nat) (hk : k < 64) :
    val 18446744073709551616 xs / 2 ^ (64 * q + k) % 2 = xs.getD q 0 / 2 ^ k % 2 := by
  rw [Nat.pow_add, ← Nat.div_div_eq_div_mul, ← pow_W, val_div_pow (by omega) h, drop_getD]
  have hW : (18446744073709551616 : Nat) = 2 ^ k * (2 * 2 ^ (63 - k)) := by
    rw [Nat.mul_comm 2, ← Nat.pow_succ, ← Nat.pow_add, show k + (63 - k + 1) = 64 by omega]
  generalize val 18446744073709551616 (xs.drop (q + 1)) = r
  generalize xs.getD q 0 = d
  rw [hW, Nat.mul_assoc, Nat.add_mul_div_left _ _ (Nat.two_pow_pos k), Nat.mul_assoc, Nat.add_mul_mod_self_left]

/-! ### bytes, the highest first -/

def be (bs : List Nat) : Nat := val 256 bs.reverse

def beN (n v : Nat) : List Nat := (List.range n).map fun i => v / 256 ^ (n - 1 - i) % 256

theorem be_take_succ (bs : List Nat) (i : Nat) (h : i < bs.length) : be (bs.take (i + 1)) = be (bs.take i) * 256 + bs[i] := by
  unfold be
  rw [take_snoc bs i h, List.reverse_append, List.reverse_singleton, List.singleton_append, val]
  omega

theorem pow_W256 (p : Nat) : 18446744073709551616 ^ p = 256 ^ (8 * p) := by
  rw [show (18446744073709551616 : Nat) = 256 ^ 8 from rfl, ← Nat.pow_mul]

theorem pow_256 (r : Nat) : 256 ^ r = 2 ^ (r * 8) := by
  rw [show (256 : Nat) = 2 ^ 8 from rfl, ← Nat.pow_mul, Nat.mul_comm]

/-- one byte more, the highest first -/
theorem fb_step (zs : List Nat) (V c n i k p r o : Nat) (hk : k + 1 + i = n) (hkp : k = 8 * p + r) (hr : r < 8) (hc : c < 256)
    (hp : p < zs.length) (ho : zs[p] = o) (dz : Dg 18446744073709551616 zs) (hv : val 18446744073709551616 zs = V * 256 ^ (n - i)) :
    (o ||| (c * 2 ^ (r * 8))) = o + c * 2 ^ (r * 8) ∧ o + c * 2 ^ (r * 8) < 18446744073709551616 ∧
    val 18446744073709551616 (zs.set p (o + c * 2 ^ (r * 8))) = (V * 256 + c) * 256 ^ (n - (i + 1)) := by
  have hni : n - i = 8 * p + (r + 1) := by omega
  have hW : (18446744073709551616 : Nat) = 256 ^ (r + 1) * 256 ^ (7 - r) := by rw [← Nat.pow_add, show r + 1 + (7 - r) = 8 by omega]
  have ho2 : o = 256 ^ (r + 1) * (V % 256 ^ (7 - r)) := by
    have e1 := val_div_pow (B := 18446744073709551616) (by omega) dz p
    rw [val_drop _ _ _ hp, ho] at e1
    have e2 : o = val 18446744073709551616 zs / 18446744073709551616 ^ p % 18446744073709551616 := by
      rw [e1, Nat.add_mul_mod_self_left, Nat.mod_eq_of_lt]
      rw [← ho]; exact dz.at p hp
    rw [e2, hv, hni, pow_W256, Nat.pow_add, Nat.mul_comm V, Nat.mul_assoc, Nat.mul_div_cancel_left _ (Nat.pow_pos (by omega))]
    conv => lhs; rw [hW]
    rw [Nat.mul_mod_mul_left]
  have hy : c * 2 ^ (r * 8) < 256 ^ (r + 1) := by
    rw [← pow_256, Nat.pow_succ, Nat.mul_comm]
    exact Nat.mul_lt_mul_of_pos_left hc (Nat.pow_pos (by omega))
  refine ⟨?_, ?_, ?_⟩
  · rw [ho2, Nat.or_comm]
    rw [pow_256 (r + 1)] at hy ⊢
    rw [or_low _ _ _ hy]
    exact Nat.add_comm _ _
  · have h1 : V % 256 ^ (7 - r) < 256 ^ (7 - r) := Nat.mod_lt _ (Nat.pow_pos (by omega))
    have h2 : 256 ^ (r + 1) * (V % 256 ^ (7 - r) + 1) ≤ 256 ^ (r + 1) * 256 ^ (7 - r) := Nat.mul_le_mul_left _ h1
    rw [← hW, Nat.mul_add, ← ho2] at h2
    omega
  · have e1 := val_set 18446744073709551616 zs p (o + c * 2 ^ (r * 8)) hp
    rw [ho, Nat.mul_add] at e1
    have e3 : val 18446744073709551616 (zs.set p (o + c * 2 ^ (r * 8))) = val 18446744073709551616 zs + 18446744073709551616 ^ p * (c * 2 ^ (r * 8)) := by omega
    rw [e3, hv, hni, ← pow_256, pow_W256, Nat.mul_left_comm, ← Nat.pow_add, show n - (i + 1) = 8 * p + r by omega, show 8 * p + (r + 1) = 8 * p + r + 1 by omega, Nat.pow_succ, Nat.add_mul, Nat.mul_assoc V, Nat.mul_comm 256]

/-- one byte of a number, out of the digit that holds it -/
theorem byte_digit {xs : List Nat} (h : Dg 18446744073709551616 xs) (p r : Nat) (hr : r < 8) :
    val 18446744073709551616 xs / 256 ^ (8 * p + r) % 256 = xs.getD p 0 / 2 ^ (r * 8) % 256 := by
  rw [Nat.pow_add, ← Nat.div_div_eq_div_mul, ← pow_W256, val_div_pow (by omega) h, drop_getD, ← pow_256]
  have hW : (18446744073709551616 : Nat) = 256 ^ r * (256 * 256 ^ (7 - r)) := by
    rw [Nat.mul_comm 256, ← Nat.pow_succ, ← Nat.pow_add, show r + (7 - r + 1) = 8 by omega]
  generalize val 18446744073709551616 (xs.drop (p + 1)) = q
  generalize xs.getD p 0 = d
  rw [hW, Nat.mul_assoc, Nat.add_mul_div_left _ _ (Nat.pow_pos (by omega)), Nat.mul_assoc, Nat.add_mul_mod_self_left]

theorem beN_length (n v : Nat) : (beN n v).length = n := by simp [beN]

theorem beN_get (n v i : Nat) (h : i < (beN n v).length) : (beN n v)[i] = v / 256 ^ (n - 1 - i) % 256 := by simp [beN]

theorem beN_dg (n v : Nat) : Dg 256 (beN n v) := by
  intro x hx
  obtain ⟨_, _, rfl⟩ := List.mem_map.1 hx
  exact Nat.mod_lt _ (by omega)

theorem beN_take_succ (n v i : Nat) (h : i < n) : (beN n v).take (i + 1) = (beN n v).take i ++ [v / 256 ^ (n - 1 - i) % 256] := by
  rw [take_snoc _ _ (by rw [beN_length]; exact h), beN_get]

end Go.Proofs.Ytaeamlldocbeeaa.Num
