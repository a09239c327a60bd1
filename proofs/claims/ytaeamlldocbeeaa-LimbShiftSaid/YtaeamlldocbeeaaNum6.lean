/- Plain arithmetic of a long division, the whole. -/
import Derived.Test.YtaeamlldocbeeaaNum5
namespace Go.Proofs.Ytaeamlldocbeeaa.Num

theorem val_top3 (B : Nat) (X : List Nat) (m : Nat) (hl : X.length = m + 3) :
    val B X = val B (X.take m) + B ^ m * ((X[m + 2] * B + X[m + 1]) * B + X[m]) := by
  rw [val_take_drop B X m (by omega), val_drop B X m (by omega), val_drop B X (m + 1) (by omega), val_drop B X (m + 2) (by omega), List.drop_of_length_le (by omega)]
  simp only [val, Nat.mul_zero, Nat.add_zero]
  rw [Nat.mul_comm B X[m + 2], Nat.mul_comm B (X[m + 1] + _), Nat.add_comm X[m + 1], Nat.add_comm X[m]]

theorem val_top2 (B : Nat) (X : List Nat) (m : Nat) (hl : X.length = m + 2) :
    val B X = val B (X.take m) + B ^ m * (X[m + 1] * B + X[m]) := by
  rw [val_take_drop B X m (by omega), val_drop B X m (by omega), val_drop B X (m + 1) (by omega), List.drop_of_length_le (by omega)]
  simp only [val, Nat.mul_zero, Nat.add_zero]
  rw [Nat.mul_comm B X[m + 1], Nat.add_comm X[m]]

/-- the true digit is at most the quotient of the upper limbs -/
theorem top_quo (P a A b C : Nat) (_hP : 0 < P) (ha : a < P) (hC : 0 < C) : (a + P * A) / (b + P * C) ≤ A / C := by
  rw [Nat.le_div_iff_mul_le hC]
  have h := Nat.div_mul_le_self (a + P * A) (b + P * C)
  generalize (a + P * A) / (b + P * C) = Q at *
  rw [Nat.mul_add, Nat.mul_left_comm] at h
  have h2 : P * (Q * C) < P * (A + 1) := by rw [Nat.mul_add, Nat.mul_one]; omega
  have := Nat.lt_of_mul_lt_mul_left h2
  omega

/-- the loop that gives back what was taken too much -/
structure Back (B n D X : Nat) (g U bo : Nat) : Prop where
  eq : U + g * D = X + B ^ (n + 1) * bo
  ge : X / D ≤ g
  g : g < B
  U : U < B ^ (n + 1)
  bo : bo ≤ 1

theorem Back.done {B n D X g U : Nat} (h : Back B n D X g U 0) (hD : 0 < D) : g = X / D ∧ U = X % D := by
  have h1 := h.eq
  have h2 := h.ge
  have h3 : g ≤ X / D := by rw [Nat.le_div_iff_mul_le hD]; omega
  have e : g = X / D := by omega
  refine ⟨e, ?_⟩
  have h4 := Nat.div_add_mod X D
  rw [← e, Nat.mul_comm] at h4
  omega

theorem Back.more {B n D X g U U' k : Nat} (h : Back B n D X g U 1) (hD : 0 < D) (hDn : D < B ^ n) (hX : X < B * D) (hU' : U' < B ^ (n + 1)) (hk : U' + B ^ (n + 1) * k = U + D) :
    0 < g ∧ Back B n D X (g - 1) U' (if B ^ n ≤ U' then 1 else 0) := by
  have h1 := h.eq
  have h2 := h.U
  have h3 := h.g
  rw [Nat.mul_one] at h1
  have hgt : X / D < g := by
    rw [Nat.div_lt_iff_lt_mul hD]; omega
  have hg : 0 < g := Nat.lt_of_le_of_lt (Nat.zero_le _) hgt
  obtain ⟨g', rfl⟩ : ∃ g', g = g' + 1 := ⟨g - 1, by omega⟩
  refine ⟨hg, ?_⟩
  rw [Nat.add_sub_cancel]
  rw [Nat.add_mul, Nat.one_mul] at h1
  have hpow : B ^ (n + 1) = B * B ^ n := by rw [Nat.pow_succ, Nat.mul_comm]
  -- what was taken too much is less than g' digits
  have hq := Nat.div_add_mod X D
  have hm := Nat.mod_lt X hD
  have hle0 : g' * D ≤ X → g' ≤ X / D := fun h => by rw [Nat.le_div_iff_mul_le hD]; exact h
  generalize hQ : X / D = Q at *
  generalize X % D = R at *
  have hXlt : X < B ^ (n + 1) := by
    rw [hpow]
    exact Nat.lt_of_lt_of_le hX (Nat.mul_le_mul_left _ (by omega))
  have hk1 : k = 0 ∨ k = 1 := by
    rcases Nat.lt_or_ge k 2 with h | h
    · omega
    · have : B ^ (n + 1) * 2 ≤ B ^ (n + 1) * k := Nat.mul_le_mul_left _ h
      omega
  rcases hk1 with rfl | rfl
  · -- still too much
    have hbig : B ^ n ≤ U' := by
      have e1 : g' * D ≤ X + (B - 2) * D := by
        have : g' ≤ Q + (B - 2) := by omega
        have e2 : g' * D ≤ (Q + (B - 2)) * D := Nat.mul_le_mul_right _ this
        rw [Nat.add_mul, Nat.mul_comm Q] at e2
        omega
      have e3 : (B - 2) * D ≤ (B - 2) * B ^ n := Nat.mul_le_mul_left _ (by omega)
      have e4 : (B - 2) * B ^ n + 2 * B ^ n ≤ B * B ^ n ∨ B < 2 := by
        rcases Nat.lt_or_ge B 2 with h | h
        · exact .inr h
        · left
          rw [← Nat.add_mul]
          exact Nat.mul_le_mul_right _ (by omega)
      rcases e4 with e4 | e4
      · omega
      · omega
    rw [if_pos hbig]
    refine ⟨by omega, by rw [hQ]; omega, by omega, hU', by omega⟩
  · have hle : g' * D ≤ X := by omega
    have hg'q := hle0 hle
    have e : g' = Q := by omega
    have hsm : ¬ B ^ n ≤ U' := by
      rw [← e, Nat.mul_comm] at hq
      omega
    rw [if_neg hsm]
    exact ⟨by omega, by rw [hQ]; omega, by omega, hU', by omega⟩

theorem top_zero {B : Nat} {us : List Nat} {n : Nat} (hd : Dg B us) (hl : us.length = n + 1) : us[n] = 0 ↔ ¬ B ^ n ≤ val B us := by
  have e := val_take_drop B us n (by omega)
  rw [val_drop B us n (by omega), List.drop_of_length_le (by omega)] at e
  simp only [val, Nat.mul_zero, Nat.add_zero] at e
  have h1 := val_lt (hd.take n)
  rw [List.length_take, Nat.min_eq_left (by omega)] at h1
  constructor
  · intro h
    rw [h, Nat.mul_zero, Nat.add_zero] at e
    omega
  · intro h
    rcases Nat.eq_zero_or_pos us[n] with h2 | h2
    · exact h2
    · have : B ^ n * 1 ≤ B ^ n * us[n] := Nat.mul_le_mul_left _ h2
      omega

theorem rest_seg (B : Nat) (rs : List Nat) (j m : Nat) (h : j + m ≤ rs.length) : val B (rs.drop j) = val B (seg rs j m) + B ^ m * val B (rs.drop (j + m)) := by
  rw [val_take_drop B (rs.drop j) m (by rw [List.length_drop]; omega), List.drop_drop]; rfl

/-- the part of a row from which one digit of the quotient is taken -/
theorem quo_part {B : Nat} {rs : List Nat} (dr : Dg B rs) {j n D : Nat} (hl : j + n + 1 ≤ rs.length) (h1 : val B (rs.drop (j + 1)) < D) (hD : D < B ^ n) :
    val B (rs.drop j) = val B (seg rs j (n + 1)) ∧ val B (seg rs j (n + 1)) < B * D ∧ val B (rs.drop (j + n + 1)) = 0 := by
  have e1 := rest_seg B rs (j + 1) n (by omega)
  have e0 : val B (rs.drop (j + 1 + n)) = 0 := by
    rcases Nat.eq_zero_or_pos (val B (rs.drop (j + 1 + n))) with h | h
    · exact h
    · have : B ^ n * 1 ≤ B ^ n * val B (rs.drop (j + 1 + n)) := Nat.mul_le_mul_left _ h
      omega
  have e2 := rest_seg B rs j (n + 1) (by omega)
  rw [show j + (n + 1) = j + 1 + n by omega, e0, Nat.mul_zero, Nat.add_zero] at e2
  have e3 := val_drop B rs j (by omega)
  have e4 := dr.at j (by omega)
  have e5 : B * (val B (rs.drop (j + 1)) + 1) ≤ B * D := Nat.mul_le_mul_left _ h1
  rw [Nat.mul_add, Nat.mul_one] at e5
  refine ⟨e2, by omega, by rw [show j + n + 1 = j + 1 + n by omega]; exact e0⟩

/-- the guessed digit is not too small -/
theorem guess_ge {B : Nat} (hB : 1 < B) {X D : List Nat} {n : Nat} (dX : Dg B X) (hX : X.length = n + 1) (hD : D.length = n) (hn : 2 ≤ n)
    {x2 x1 x0 y1 y0 : Nat} (g2 : X.getD n 0 = x2) (g1 : X.getD (n - 1) 0 = x1) (g0 : X.getD (n - 2) 0 = x0) (k1 : D.getD (n - 1) 0 = y1) (k0 : D.getD (n - 2) 0 = y0) (hy : 0 < y1) :
    val B X / val B D ≤ ((x2 * B + x1) * B + x0) / (y1 * B + y0) := by
  obtain ⟨m, rfl⟩ : ∃ m, n = m + 2 := ⟨n - 2, by omega⟩
  have eX := val_top3 B X m (by omega)
  have eD := val_top2 B D m (by omega)
  simp only [List.getD, show m + 2 - 1 = m + 1 by omega, show m + 2 - 2 = m by omega] at g2 g1 g0 k1 k0
  rw [List.getElem?_eq_getElem (by omega), Option.getD_some] at g2 g1 g0 k1 k0
  rw [g2, g1, g0] at eX
  rw [k1, k0] at eD
  rw [eX, eD]
  have h1 := val_lt (dX.take m)
  rw [List.length_take, Nat.min_eq_left (by omega)] at h1
  exact top_quo _ _ _ _ _ (Nat.pow_pos (by omega)) h1 (by have : 0 < y1 * B := Nat.mul_pos hy (by omega); omega)

theorem guess_lt {B x2 x1 x0 y1 y0 : Nat} (h : x2 < y1) (h1 : x1 < B) (h0 : x0 < B) : ((x2 * B + x1) * B + x0) / (y1 * B + y0) < B := by
  have e6 : (x2 + 1) * B ≤ y1 * B := Nat.mul_le_mul_right _ h
  rw [Nat.add_mul, Nat.one_mul] at e6
  have e7 : (x2 * B + x1 + 1) * B ≤ (y1 * B) * B := Nat.mul_le_mul_right _ (by omega)
  rw [Nat.add_mul, Nat.one_mul] at e7
  rw [Nat.div_lt_iff_lt_mul (by omega), Nat.mul_comm B, Nat.add_mul (y1 * B)]
  omega

theorem seg_getD (rs : List Nat) (j m i : Nat) (h : i < m) : (seg rs j m).getD i 0 = rs.getD (j + i) 0 := by
  simp [seg, List.getD, h]

theorem Dg.seg {B : Nat} {rs : List Nat} (h : Dg B rs) (j m : Nat) : Dg B (seg rs j m) := (h.drop j).take m

/-- what the whole division comes to -/
theorem quo_end (va vb s q r : Nat) (h : q * (vb * 2 ^ s) + r = va * 2 ^ s) (hr : r < vb * 2 ^ s) : q = va / vb ∧ r / 2 ^ s = va % vb := by
  have hp := Nat.two_pow_pos s
  have e1 : va * 2 ^ s / (vb * 2 ^ s) = q := by
    rw [← h, Nat.mul_comm q, Nat.mul_add_div (by omega), Nat.div_eq_of_lt hr, Nat.add_zero]
  have e2 : va * 2 ^ s % (vb * 2 ^ s) = r := by
    rw [← h, Nat.mul_comm q, Nat.mul_add_mod, Nat.mod_eq_of_lt hr]
  rw [Nat.mul_div_mul_right _ _ hp] at e1
  rw [Nat.mul_mod_mul_right] at e2
  exact ⟨e1.symm, by rw [← e2, Nat.mul_div_cancel _ hp]⟩

end Go.Proofs.Ytaeamlldocbeeaa.Num
