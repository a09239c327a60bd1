/- Long division by one leading digit: plain arithmetic. -/
import Derived.Test.YtaeamlldocbeeaaNum6
namespace Go.Proofs.Ytaeamlldocbeeaa.Num

theorem val_top1 (B : Nat) (D : List Nat) (m : Nat) (h : D.length = m + 1) : val B D = val B (D.take m) + B ^ m * D[m] := by
  have e := val_take_drop B D m (by omega)
  rw [val_drop B D m (by omega), List.drop_of_length_le (by omega)] at e
  simpa only [val, Nat.mul_zero, Nat.add_zero] using e

theorem guess1_ge {B : Nat} (hB : 1 < B) {X D : List Nat} {n : Nat} (dX : Dg B X) (hX : X.length = n + 1) (hD : D.length = n) (hn : 1 ≤ n)
    {x1 x0 y1 : Nat} (g1 : X.getD n 0 = x1) (g0 : X.getD (n - 1) 0 = x0) (k1 : D.getD (n - 1) 0 = y1) (hy : 0 < y1) :
    val B X / val B D ≤ (x1 * B + x0) / y1 := by
  obtain ⟨m, rfl⟩ : ∃ m, n = m + 1 := ⟨n - 1, by omega⟩
  have eX := val_top2 B X m (by omega)
  have eD := val_top1 B D m (by omega)
  simp only [List.getD, show m + 1 - 1 = m by omega] at g1 g0 k1
  rw [List.getElem?_eq_getElem (by omega), Option.getD_some] at g1 g0 k1
  rw [g1, g0] at eX
  rw [k1] at eD
  rw [eX, eD]
  have h1 := val_lt (dX.take m)
  rw [List.length_take, Nat.min_eq_left (by omega)] at h1
  exact top_quo _ _ _ _ _ (Nat.pow_pos (by omega)) h1 hy

/-- what the whole division comes to -/
theorem quo_end2 (va vb s q r : Nat) (hp : 0 < s) (h : q * (vb * s) + r = va * s) (hr : r < vb * s) : q = va / vb ∧ r / s = va % vb := by
  have e1 : va * s / (vb * s) = q := by
    rw [← h, Nat.mul_comm q, Nat.mul_add_div (by omega), Nat.div_eq_of_lt hr, Nat.add_zero]
  have e2 : va * s % (vb * s) = r := by
    rw [← h, Nat.mul_comm q, Nat.mul_add_mod, Nat.mod_eq_of_lt hr]
  rw [Nat.mul_div_mul_right _ _ hp] at e1
  rw [Nat.mul_mod_mul_right] at e2
  exact ⟨e1.symm, by rw [← e2, Nat.mul_div_cancel _ hp]⟩

/-- the scale leaves the length as it is -/
theorem scale_lt {B : Nat} {Y : List Nat} {m : Nat} (hd : Dg B Y) (hl : Y.length = m + 1) (sc : Nat) (hs : sc = B / (Y[m] + 1)) : val B Y * sc < B ^ (m + 1) ∨ sc = 0 := by
  rcases Nat.eq_zero_or_pos sc with h0 | h0
  · exact .inr h0
  left
  have e := val_top1 B Y m hl
  have h1 := val_lt (hd.take m)
  rw [List.length_take, Nat.min_eq_left (by omega)] at h1
  have h2 : val B Y < B ^ m * (Y[m] + 1) := by rw [Nat.mul_add]; omega
  have h3 : (Y[m] + 1) * sc ≤ B := by rw [hs, Nat.mul_comm]; exact Nat.div_mul_le_self _ _
  have h4 : val B Y * sc < B ^ m * (Y[m] + 1) * sc := Nat.mul_lt_mul_of_pos_right h2 h0
  have h5 : B ^ m * ((Y[m] + 1) * sc) ≤ B ^ m * B := Nat.mul_le_mul_left _ h3
  rw [Nat.pow_succ]
  rw [← Nat.mul_assoc] at h5
  omega

/-- the rest at the start is below the divisor -/
theorem start_lt {B : Nat} (hB : 1 < B) {us : List Nat} (du : Dg B us) {u v sc n1 n N : Nat} (hu : val B us = u * sc) (hul : u < B ^ n1) (hv : B ^ (n - 1) ≤ v) (hn : 1 ≤ n) (hN : N + n = n1 + 1) (hsc : 0 < sc) :
    val B (us.drop N) < v * sc := by
  rw [← val_div_pow hB du, hu, Nat.div_lt_iff_lt_mul (Nat.pow_pos (by omega))]
  have h1 : u * sc < B ^ n1 * sc := Nat.mul_lt_mul_of_pos_right hul hsc
  have h2 : B ^ n1 = B ^ (n - 1) * B ^ N := by rw [← Nat.pow_add]; congr 1; omega
  have h3 : B ^ (n - 1) * (sc * B ^ N) ≤ v * (sc * B ^ N) := Nat.mul_le_mul_right _ hv
  rw [h2, Nat.mul_assoc, Nat.mul_comm (B ^ N)] at h1
  rw [Nat.mul_assoc]
  omega

end Go.Proofs.Ytaeamlldocbeeaa.Num
