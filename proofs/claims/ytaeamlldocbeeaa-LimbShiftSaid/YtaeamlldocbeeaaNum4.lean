/- Plain arithmetic of a division by halves (math/bits.Div64). -/
import Derived.Test.YtaeamlldocbeeaaNum3
namespace Go.Proofs.Ytaeamlldocbeeaa.Num

/-- what holds at the head of the loop that corrects a guessed half digit -/
structure Half (yn1 yn0 u un q r : Nat) : Prop where
  eq : u = q * yn1 + r
  ge : (u * 4294967296 + un) / (yn1 * 4294967296 + yn0) ≤ q
  le : q ≤ 4294967297
  r : r < 4294967296
  y1 : 2147483648 ≤ yn1
  y1' : yn1 < 4294967296
  y0 : yn0 < 4294967296
  un : un < 4294967296
  u : u < yn1 * 4294967296 + yn0

theorem Half.start {yn1 yn0 u un : Nat} (y1 : 2147483648 ≤ yn1) (y1' : yn1 < 4294967296) (y0 : yn0 < 4294967296) (hun : un < 4294967296) (hu : u < yn1 * 4294967296 + yn0) :
    Half yn1 yn0 u un (u / yn1) (u % yn1) := by
  refine ⟨(Nat.div_add_mod' u yn1).symm, ?_, ?_, ?_, y1, y1', y0, hun, hu⟩
  · rw [Nat.le_div_iff_mul_le (by omega)]
    have h1 := Nat.div_mul_le_self (u * 4294967296 + un) (yn1 * 4294967296 + yn0)
    generalize (u * 4294967296 + un) / (yn1 * 4294967296 + yn0) = Q at *
    have h2 : Q * (yn1 * 4294967296) ≤ Q * (yn1 * 4294967296 + yn0) := Nat.mul_le_mul_left _ (by omega)
    rw [← Nat.mul_assoc] at h2
    omega
  · have h1 : u / yn1 < 4294967298 := by
      rw [Nat.div_lt_iff_lt_mul (by omega)]
      omega
    omega
  · have := Nat.mod_lt u (show 0 < yn1 by omega)
    omega

theorem Half.lt {yn1 yn0 u un q r : Nat} (h : Half yn1 yn0 u un q r) : (u * 4294967296 + un) / (yn1 * 4294967296 + yn0) < 4294967296 := by
  have h1 := h.y1; have h2 := h.u; have h3 := h.un
  rw [Nat.div_lt_iff_lt_mul (by omega)]
  omega

/-- how a guess stands to the quotient -/
theorem Half.le_iff {yn1 yn0 u un q r : Nat} (h : Half yn1 yn0 u un q r) :
    q ≤ (u * 4294967296 + un) / (yn1 * 4294967296 + yn0) ↔ q * yn0 ≤ 4294967296 * r + un := by
  have h1 := h.y1
  rw [Nat.le_div_iff_mul_le (by omega), h.eq, Nat.mul_add, Nat.add_mul, ← Nat.mul_assoc]
  omega

theorem Half.stop {yn1 yn0 u un q r : Nat} (h : Half yn1 yn0 u un q r) (h2 : q * yn0 ≤ 4294967296 * r + un) :
    q = (u * 4294967296 + un) / (yn1 * 4294967296 + yn0) :=
  Nat.le_antisymm (h.le_iff.2 h2) h.ge

theorem Half.gt {yn1 yn0 u un q r : Nat} (h : Half yn1 yn0 u un q r) (h2 : 4294967296 ≤ q ∨ 4294967296 * r + un < q * yn0) :
    (u * 4294967296 + un) / (yn1 * 4294967296 + yn0) < q := by
  rcases h2 with h2 | h2
  · have := h.lt; omega
  · have := h.le_iff
    omega

theorem Half.go {yn1 yn0 u un q r : Nat} (h : Half yn1 yn0 u un (q + 1) r) (h2 : 4294967296 ≤ q + 1 ∨ 4294967296 * r + un < (q + 1) * yn0) (hr : r + yn1 < 4294967296) :
    Half yn1 yn0 u un q (r + yn1) := by
  have h3 := h.gt h2
  have h4 := h.eq
  rw [Nat.add_mul] at h4
  refine ⟨by omega, by omega, by have := h.le; omega, hr, h.y1, h.y1', h.y0, h.un, h.u⟩

theorem Half.brk {yn1 yn0 u un q r : Nat} (h : Half yn1 yn0 u un (q + 1) r) (h2 : 4294967296 ≤ q + 1 ∨ 4294967296 * r + un < (q + 1) * yn0) (hr : 4294967296 ≤ r + yn1) :
    q = (u * 4294967296 + un) / (yn1 * 4294967296 + yn0) := by
  have h3 := h.gt h2
  have h4 := h.eq
  rw [Nat.add_mul] at h4
  have h5 := h.le
  have h6 := h.y0
  have h7 := h.y1
  have h8 : q * yn0 ≤ 4294967296 * (r + yn1) + un := by
    have e1 : q * yn0 ≤ 4294967296 * 4294967295 := Nat.mul_le_mul (by omega) (by omega)
    omega
  refine Nat.le_antisymm ?_ (by omega)
  rw [Nat.le_div_iff_mul_le (by omega), show u = q * yn1 + (r + yn1) by omega, Nat.mul_add, Nat.add_mul _ _ 4294967296, ← Nat.mul_assoc]
  omega

end Go.Proofs.Ytaeamlldocbeeaa.Num
