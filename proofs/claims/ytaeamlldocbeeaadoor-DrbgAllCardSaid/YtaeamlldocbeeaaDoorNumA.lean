/- NumA: Num2, Num3, Num4, Num5, Num6, Num7, Num8, Num9, Num10. -/
import Derived.Test.YtaeamlldocbeeaaDoorNum
import Derived.Laws.MathBits

/- More plain arithmetic of digit lists: shifts down. -/

namespace Go.Proofs.YtaeamlldocbeeaaDoor.Num

theorem shr_two (d0 d1 r k : Nat) (hk : k < 64) (h0 : d0 < 18446744073709551616) :
    (d0 + 18446744073709551616 * (d1 + 18446744073709551616 * r)) / 2 ^ k % 18446744073709551616 = d0 / 2 ^ k + (d1 * 2 ^ (64 - k)) % 18446744073709551616 := by
  have hW : (18446744073709551616 : Nat) = 2 ^ k * 2 ^ (64 - k) := by rw [← Nat.pow_add, show k + (64 - k) = 64 by omega]
  have hP := Nat.two_pow_pos k
  have hR := Nat.two_pow_pos (64 - k)
  have h2 : d0 / 2 ^ k < 2 ^ (64 - k) := by
    rw [Nat.div_lt_iff_lt_mul hP, Nat.mul_comm, ← hW]; exact h0
  have e1 : (d0 + 18446744073709551616 * (d1 + 18446744073709551616 * r)) / 2 ^ k = d0 / 2 ^ k + 2 ^ (64 - k) * d1 + 18446744073709551616 * (2 ^ (64 - k) * r) := by
    conv => lhs; rw [hW]
    rw [Nat.mul_assoc, Nat.add_mul_div_left _ _ hP, Nat.mul_add, ← hW, Nat.add_assoc, Nat.mul_left_comm]
  rw [e1, Nat.add_mul_mod_self_left, Nat.mul_comm d1]
  have e3 : 2 ^ (64 - k) * d1 % 18446744073709551616 = 2 ^ (64 - k) * (d1 % 2 ^ k) := by
    conv => lhs; rw [hW, Nat.mul_comm (2 ^ k)]
    rw [Nat.mul_mod_mul_left]
  have e4 : d0 / 2 ^ k + 2 ^ (64 - k) * (d1 % 2 ^ k) < 18446744073709551616 := by
    have h3 : d1 % 2 ^ k < 2 ^ k := Nat.mod_lt _ hP
    have h4 : 2 ^ (64 - k) * (d1 % 2 ^ k + 1) ≤ 2 ^ (64 - k) * 2 ^ k := Nat.mul_le_mul_left _ h3
    rw [Nat.mul_comm _ (2 ^ k), ← hW, Nat.mul_add] at h4
    omega
  rw [e3, Nat.add_mod, e3, Nat.mod_eq_of_lt (a := d0 / 2 ^ k) (by have : 2 ^ (64 - k) ≤ 2 ^ 64 := Nat.pow_le_pow_right (by omega) (by omega); omega), Nat.mod_eq_of_lt e4]

theorem val_div_pow {B : Nat} (hB : 1 < B) {xs : List Nat} (h : Dg B xs) (i : Nat) : val B xs / B ^ i = val B (xs.drop i) := by
  by_cases hi : i ≤ xs.length
  · rw [val_take_drop B xs i hi]
    have := val_lt (h.take i)
    rw [List.length_take, Nat.min_eq_left hi] at this
    rw [Nat.add_mul_div_left _ _ (Nat.pow_pos (by omega)), Nat.div_eq_of_lt this, Nat.zero_add]
  · have h1 := val_lt h
    have h2 : B ^ xs.length ≤ B ^ i := Nat.pow_le_pow_right (by omega) (by omega)
    rw [List.drop_of_length_le (by omega), Nat.div_eq_of_lt (by omega)]; rfl

theorem drop_getD (B : Nat) (xs : List Nat) (i : Nat) : val B (xs.drop i) = xs.getD i 0 + B * val B (xs.drop (i + 1)) := by
  by_cases h : i < xs.length
  · rw [val_drop B xs i h]; simp [List.getD, h]
  · rw [List.drop_of_length_le (by omega), List.drop_of_length_le (by omega)]; simp [List.getD, h, val]

theorem shr_digit {xs : List Nat} (h : Dg 18446744073709551616 xs) (i k : Nat) (hk : k < 64) :
    val 18446744073709551616 xs / 2 ^ k / 18446744073709551616 ^ i % 18446744073709551616 =
      xs.getD i 0 / 2 ^ k + (xs.getD (i + 1) 0 * 2 ^ (64 - k)) % 18446744073709551616 ∧
    xs.getD i 0 / 2 ^ k < 2 ^ (64 - k) := by
  have hW2 : (18446744073709551616 : Nat) = 2 ^ (64 - k) * 2 ^ k := by rw [← Nat.pow_add, show 64 - k + k = 64 by omega]
  have hd := h.getD (by omega) i
  have h2 : xs.getD i 0 / 2 ^ k < 2 ^ (64 - k) := by
    rw [Nat.div_lt_iff_lt_mul (Nat.two_pow_pos k), ← hW2]; exact hd
  refine ⟨?_, h2⟩
  rw [Nat.div_div_eq_div_mul, Nat.mul_comm, ← Nat.div_div_eq_div_mul, val_div_pow (by omega) h, drop_getD, drop_getD _ _ (i + 1)]
  exact shr_two _ _ _ _ hk hd

end Go.Proofs.YtaeamlldocbeeaaDoor.Num

/- More plain arithmetic of digit lists: bits and bytes. -/

namespace Go.Proofs.YtaeamlldocbeeaaDoor.Num

theorem bitLen_zero : bitLen 0 = 0 := rfl

theorem bitLen_le (n k : Nat) : bitLen n ≤ k ↔ n < 2 ^ k := by
  unfold bitLen
  split
  · rename_i h; subst h; simp; exact Nat.two_pow_pos k
  · rename_i h
    rw [← Nat.log2_lt h]
    omega

theorem lt_bitLen (n k : Nat) : k < bitLen n ↔ 2 ^ k ≤ n := by
  have := bitLen_le n k
  omega

theorem bitLen_digits {xs : List Nat} {k : Nat} (hd : Dg 18446744073709551616 xs) (hk : xs.length = k + 1) (h0 : xs[k] ≠ 0) :
    bitLen (val 18446744073709551616 xs) = 64 * k + bitLen xs[k] := by
  have e : val 18446744073709551616 xs / 2 ^ (64 * k) = xs[k] := by
    rw [← pow_W, val_div_pow (by omega) hd, val_drop _ _ _ (by omega), List.drop_of_length_le (by omega)]
    simp [val]
  rw [← e]
  exact bitLen_shift _ _ (by rw [e]; exact h0)

/-- one bit of a number, out of the digit that holds it -/
theorem bit_digit {xs : List Nat} (h : Dg 18446744073709551616 xs) (q k : Nat) (hk : k < 64) :
    val 18446744073709551616 xs / 2 ^ (64 * q + k) % 2 = xs.getD q 0 / 2 ^ k % 2 := by
  rw [Nat.pow_add, ← Nat.div_div_eq_div_mul, ← pow_W, val_div_pow (by omega) h, drop_getD]
  have hW : (18446744073709551616 : Nat) = 2 ^ k * (2 * 2 ^ (63 - k)) := by
    rw [Nat.mul_comm 2, ← Nat.pow_succ, ← Nat.pow_add, show k + (63 - k + 1) = 64 by omega]
  generalize val 18446744073709551616 (xs.drop (q + 1)) = r
  generalize xs.getD q 0 = d
  rw [hW, Nat.mul_assoc, Nat.add_mul_div_left _ _ (Nat.two_pow_pos k), Nat.mul_assoc, Nat.add_mul_mod_self_left]

/-! ### bytes, the highest first -/

def be (bs : List Nat) : Nat := val 256 bs.reverse

def beN (n v : Nat) : List Nat := (List.range n).map fun i => v / 256 ^ (n - 1 - i) % 256

theorem be_take_succ (bs : List Nat) (i : Nat) (h : i < bs.length) : be (bs.take (i + 1)) = be (bs.take i) * 256 + bs[i] := by
  unfold be
  rw [take_snoc bs i h, List.reverse_append, List.reverse_singleton, List.singleton_append, val]
  omega

theorem pow_W256 (p : Nat) : 18446744073709551616 ^ p = 256 ^ (8 * p) := by
  rw [show (18446744073709551616 : Nat) = 256 ^ 8 from rfl, ← Nat.pow_mul]

theorem pow_256 (r : Nat) : 256 ^ r = 2 ^ (r * 8) := by
  rw [show (256 : Nat) = 2 ^ 8 from rfl, ← Nat.pow_mul, Nat.mul_comm]

/-- one byte more, the highest first -/
theorem fb_step (zs : List Nat) (V c n i k p r o : Nat) (hk : k + 1 + i = n) (hkp : k = 8 * p + r) (hr : r < 8) (hc : c < 256)
    (hp : p < zs.length) (ho : zs[p] = o) (dz : Dg 18446744073709551616 zs) (hv : val 18446744073709551616 zs = V * 256 ^ (n - i)) :
    (o ||| (c * 2 ^ (r * 8))) = o + c * 2 ^ (r * 8) ∧ o + c * 2 ^ (r * 8) < 18446744073709551616 ∧
    val 18446744073709551616 (zs.set p (o + c * 2 ^ (r * 8))) = (V * 256 + c) * 256 ^ (n - (i + 1)) := by
  have hni : n - i = 8 * p + (r + 1) := by omega
  have hW : (18446744073709551616 : Nat) = 256 ^ (r + 1) * 256 ^ (7 - r) := by rw [← Nat.pow_add, show r + 1 + (7 - r) = 8 by omega]
  have ho2 : o = 256 ^ (r + 1) * (V % 256 ^ (7 - r)) := by
    have e1 := val_div_pow (B := 18446744073709551616) (by omega) dz p
    rw [val_drop _ _ _ hp, ho] at e1
    have e2 : o = val 18446744073709551616 zs / 18446744073709551616 ^ p % 18446744073709551616 := by
      rw [e1, Nat.add_mul_mod_self_left, Nat.mod_eq_of_lt]
      rw [← ho]; exact dz.at p hp
    rw [e2, hv, hni, pow_W256, Nat.pow_add, Nat.mul_comm V, Nat.mul_assoc, Nat.mul_div_cancel_left _ (Nat.pow_pos (by omega))]
    conv => lhs; rw [hW]
    rw [Nat.mul_mod_mul_left]
  have hy : c * 2 ^ (r * 8) < 256 ^ (r + 1) := by
    rw [← pow_256, Nat.pow_succ, Nat.mul_comm]
    exact Nat.mul_lt_mul_of_pos_left hc (Nat.pow_pos (by omega))
  refine ⟨?_, ?_, ?_⟩
  · rw [ho2, Nat.or_comm]
    rw [pow_256 (r + 1)] at hy ⊢
    rw [or_low _ _ _ hy]
    exact Nat.add_comm _ _
  · have h1 : V % 256 ^ (7 - r) < 256 ^ (7 - r) := Nat.mod_lt _ (Nat.pow_pos (by omega))
    have h2 : 256 ^ (r + 1) * (V % 256 ^ (7 - r) + 1) ≤ 256 ^ (r + 1) * 256 ^ (7 - r) := Nat.mul_le_mul_left _ h1
    rw [← hW, Nat.mul_add, ← ho2] at h2
    omega
  · have e1 := val_set 18446744073709551616 zs p (o + c * 2 ^ (r * 8)) hp
    rw [ho, Nat.mul_add] at e1
    have e3 : val 18446744073709551616 (zs.set p (o + c * 2 ^ (r * 8))) = val 18446744073709551616 zs + 18446744073709551616 ^ p * (c * 2 ^ (r * 8)) := by omega
    rw [e3, hv, hni, ← pow_256, pow_W256, Nat.mul_left_comm, ← Nat.pow_add, show n - (i + 1) = 8 * p + r by omega, show 8 * p + (r + 1) = 8 * p + r + 1 by omega, Nat.pow_succ, Nat.add_mul, Nat.mul_assoc V, Nat.mul_comm 256]

/-- one byte of a number, out of the digit that holds it -/
theorem byte_digit {xs : List Nat} (h : Dg 18446744073709551616 xs) (p r : Nat) (hr : r < 8) :
    val 18446744073709551616 xs / 256 ^ (8 * p + r) % 256 = xs.getD p 0 / 2 ^ (r * 8) % 256 := by
  rw [Nat.pow_add, ← Nat.div_div_eq_div_mul, ← pow_W256, val_div_pow (by omega) h, drop_getD, ← pow_256]
  have hW : (18446744073709551616 : Nat) = 256 ^ r * (256 * 256 ^ (7 - r)) := by
    rw [Nat.mul_comm 256, ← Nat.pow_succ, ← Nat.pow_add, show r + (7 - r + 1) = 8 by omega]
  generalize val 18446744073709551616 (xs.drop (p + 1)) = q
  generalize xs.getD p 0 = d
  rw [hW, Nat.mul_assoc, Nat.add_mul_div_left _ _ (Nat.pow_pos (by omega)), Nat.mul_assoc, Nat.add_mul_mod_self_left]

theorem beN_length (n v : Nat) : (beN n v).length = n := by simp [beN]

theorem beN_get (n v i : Nat) (h : i < (beN n v).length) : (beN n v)[i] = v / 256 ^ (n - 1 - i) % 256 := by simp [beN]

theorem beN_dg (n v : Nat) : Dg 256 (beN n v) := by
  intro x hx
  obtain ⟨_, _, rfl⟩ := List.mem_map.1 hx
  exact Nat.mod_lt _ (by omega)

theorem beN_take_succ (n v i : Nat) (h : i < n) : (beN n v).take (i + 1) = (beN n v).take i ++ [v / 256 ^ (n - 1 - i) % 256] := by
  rw [take_snoc _ _ (by rw [beN_length]; exact h), beN_get]

end Go.Proofs.YtaeamlldocbeeaaDoor.Num

/- Plain arithmetic of a division by halves (math/bits.Div64). -/

namespace Go.Proofs.YtaeamlldocbeeaaDoor.Num

/-- what holds at the head of the loop that corrects a guessed half digit -/
structure Half (yn1 yn0 u un q r : Nat) : Prop where
  eq : u = q * yn1 + r
  ge : (u * 4294967296 + un) / (yn1 * 4294967296 + yn0) ≤ q
  le : q ≤ 4294967297
  r : r < 4294967296
  y1 : 2147483648 ≤ yn1
  y1' : yn1 < 4294967296
  y0 : yn0 < 4294967296
  un : un < 4294967296
  u : u < yn1 * 4294967296 + yn0

theorem Half.start {yn1 yn0 u un : Nat} (y1 : 2147483648 ≤ yn1) (y1' : yn1 < 4294967296) (y0 : yn0 < 4294967296) (hun : un < 4294967296) (hu : u < yn1 * 4294967296 + yn0) :
    Half yn1 yn0 u un (u / yn1) (u % yn1) := by
  refine ⟨(Nat.div_add_mod' u yn1).symm, ?_, ?_, ?_, y1, y1', y0, hun, hu⟩
  · rw [Nat.le_div_iff_mul_le (by omega)]
    have h1 := Nat.div_mul_le_self (u * 4294967296 + un) (yn1 * 4294967296 + yn0)
    generalize (u * 4294967296 + un) / (yn1 * 4294967296 + yn0) = Q at *
    have h2 : Q * (yn1 * 4294967296) ≤ Q * (yn1 * 4294967296 + yn0) := Nat.mul_le_mul_left _ (by omega)
    rw [← Nat.mul_assoc] at h2
    omega
  · have h1 : u / yn1 < 4294967298 := by
      rw [Nat.div_lt_iff_lt_mul (by omega)]
      omega
    omega
  · have := Nat.mod_lt u (show 0 < yn1 by omega)
    omega

theorem Half.lt {yn1 yn0 u un q r : Nat} (h : Half yn1 yn0 u un q r) : (u * 4294967296 + un) / (yn1 * 4294967296 + yn0) < 4294967296 := by
  have h1 := h.y1; have h2 := h.u; have h3 := h.un
  rw [Nat.div_lt_iff_lt_mul (by omega)]
  omega

/-- how a guess stands to the quotient -/
theorem Half.le_iff {yn1 yn0 u un q r : Nat} (h : Half yn1 yn0 u un q r) :
    q ≤ (u * 4294967296 + un) / (yn1 * 4294967296 + yn0) ↔ q * yn0 ≤ 4294967296 * r + un := by
  have h1 := h.y1
  rw [Nat.le_div_iff_mul_le (by omega), h.eq, Nat.mul_add, Nat.add_mul, ← Nat.mul_assoc]
  omega

theorem Half.stop {yn1 yn0 u un q r : Nat} (h : Half yn1 yn0 u un q r) (h2 : q * yn0 ≤ 4294967296 * r + un) :
    q = (u * 4294967296 + un) / (yn1 * 4294967296 + yn0) :=
  Nat.le_antisymm (h.le_iff.2 h2) h.ge

theorem Half.gt {yn1 yn0 u un q r : Nat} (h : Half yn1 yn0 u un q r) (h2 : 4294967296 ≤ q ∨ 4294967296 * r + un < q * yn0) :
    (u * 4294967296 + un) / (yn1 * 4294967296 + yn0) < q := by
  rcases h2 with h2 | h2
  · have := h.lt; omega
  · have := h.le_iff
    omega

theorem Half.go {yn1 yn0 u un q r : Nat} (h : Half yn1 yn0 u un (q + 1) r) (h2 : 4294967296 ≤ q + 1 ∨ 4294967296 * r + un < (q + 1) * yn0) (hr : r + yn1 < 4294967296) :
    Half yn1 yn0 u un q (r + yn1) := by
  have h3 := h.gt h2
  have h4 := h.eq
  rw [Nat.add_mul] at h4
  refine ⟨by omega, by omega, by have := h.le; omega, hr, h.y1, h.y1', h.y0, h.un, h.u⟩

theorem Half.brk {yn1 yn0 u un q r : Nat} (h : Half yn1 yn0 u un (q + 1) r) (h2 : 4294967296 ≤ q + 1 ∨ 4294967296 * r + un < (q + 1) * yn0) (hr : 4294967296 ≤ r + yn1) :
    q = (u * 4294967296 + un) / (yn1 * 4294967296 + yn0) := by
  have h3 := h.gt h2
  have h4 := h.eq
  rw [Nat.add_mul] at h4
  have h5 := h.le
  have h6 := h.y0
  have h7 := h.y1
  have h8 : q * yn0 ≤ 4294967296 * (r + yn1) + un := by
    have e1 : q * yn0 ≤ 4294967296 * 4294967295 := Nat.mul_le_mul (by omega) (by omega)
    omega
  refine Nat.le_antisymm ?_ (by omega)
  rw [Nat.le_div_iff_mul_le (by omega), show u = q * yn1 + (r + yn1) by omega, Nat.mul_add, Nat.add_mul _ _ 4294967296, ← Nat.mul_assoc]
  omega

end Go.Proofs.YtaeamlldocbeeaaDoor.Num

/- Plain arithmetic of a long division. -/

namespace Go.Proofs.YtaeamlldocbeeaaDoor.Num

theorem set_top (qs : List Nat) (j q : Nat) : (List.replicate (j + 1) 0 ++ qs).set j q = List.replicate j 0 ++ (q :: qs) := by
  rw [List.replicate_succ', List.append_assoc, List.set_append_right _ _ (by simp)]
  simp

/-- one place of a division by one digit -/
theorem small_step (B x v d q r : Nat) (hd : 0 < d) (hq : q = ((v % d) * B + x) / d) (hr : r = ((v % d) * B + x) % d) :
    q + B * (v / d) = (x + B * v) / d ∧ r = (x + B * v) % d := by
  have e : x + B * v = d * (B * (v / d)) + ((v % d) * B + x) := by
    have h := Nat.div_add_mod v d
    have h2 : B * v = B * (d * (v / d)) + B * (v % d) := by rw [← Nat.mul_add, h]
    rw [h2, Nat.mul_left_comm, Nat.mul_comm (v % d)]; omega
  rw [e, Nat.mul_add_div hd, Nat.mul_add_mod, hq, hr]
  exact ⟨by omega, rfl⟩

theorem small_digit (B x v d : Nat) (hd : 0 < d) (hx : x < B) : ((v % d) * B + x) / d < B := by
  rw [Nat.div_lt_iff_lt_mul hd]
  have h1 := Nat.mod_lt v hd
  have h2 : (v % d + 1) * B ≤ d * B := Nat.mul_le_mul_right _ h1
  rw [Nat.add_mul, Nat.one_mul, Nat.mul_comm d] at h2
  omega

/-- what holds at the head of the loop that corrects a guessed digit -/
structure Guess (B y1 y0 u x0 q r : Nat) : Prop where
  eq : u = q * y1 + r
  ge : (u * B + x0) / (y1 * B + y0) ≤ q
  q : q < B
  r : r < B

theorem Guess.le_iff {B y1 y0 u x0 q r : Nat} (h : Guess B y1 y0 u x0 q r) (h1 : 0 < y1) (hB : 0 < B) :
    q ≤ (u * B + x0) / (y1 * B + y0) ↔ q * y0 ≤ B * r + x0 := by
  have hp : 0 < y1 * B := Nat.mul_pos h1 hB
  rw [Nat.le_div_iff_mul_le (by omega), h.eq, Nat.mul_add, Nat.add_mul, ← Nat.mul_assoc, Nat.mul_comm r B]
  omega

theorem Guess.start {B y1 y0 u x0 : Nat} (h1 : 0 < y1) (hB : 0 < B) (hx0 : x0 < B) (hq : u / y1 < B) (hy1 : y1 ≤ B) : Guess B y1 y0 u x0 (u / y1) (u % y1) := by
  refine ⟨(Nat.div_add_mod' u y1).symm, ?_, hq, by have := Nat.mod_lt u h1; omega⟩
  have hp : 0 < y1 * B := Nat.mul_pos h1 hB
  rw [Nat.le_div_iff_mul_le h1]
  have h2 := Nat.div_mul_le_self (u * B + x0) (y1 * B + y0)
  generalize (u * B + x0) / (y1 * B + y0) = Q at *
  have h3 : Q * (y1 * B) ≤ Q * (y1 * B + y0) := Nat.mul_le_mul_left _ (by omega)
  rw [← Nat.mul_assoc] at h3
  have h4 : Q * y1 * B < (u + 1) * B := by rw [Nat.add_mul, Nat.one_mul]; omega
  have := Nat.lt_of_mul_lt_mul_right h4
  omega

theorem Guess.stop {B y1 y0 u x0 q r : Nat} (h : Guess B y1 y0 u x0 q r) (h1 : 0 < y1) (hB : 0 < B) (h2 : q * y0 ≤ B * r + x0) : q = (u * B + x0) / (y1 * B + y0) :=
  Nat.le_antisymm ((h.le_iff h1 hB).2 h2) h.ge

theorem Guess.go {B y1 y0 u x0 q r : Nat} (h : Guess B y1 y0 u x0 (q + 1) r) (h1 : 0 < y1) (hB : 0 < B) (h2 : B * r + x0 < (q + 1) * y0) (hr : r + y1 < B) :
    Guess B y1 y0 u x0 q (r + y1) := by
  have h3 := h.le_iff h1 hB
  have h4 := h.eq
  rw [Nat.add_mul] at h4
  exact ⟨by omega, by omega, by have := h.q; omega, hr⟩

theorem Guess.brk {B y1 y0 u x0 q r : Nat} (h : Guess B y1 y0 u x0 (q + 1) r) (h1 : 0 < y1) (hB : 0 < B) (hy0 : y0 < B) (h2 : B * r + x0 < (q + 1) * y0) (hr : B ≤ r + y1) :
    q = (u * B + x0) / (y1 * B + y0) := by
  have h3 := h.le_iff h1 hB
  have h4 := h.eq
  rw [Nat.add_mul] at h4
  have h5 := h.q
  have hp : 0 < y1 * B := Nat.mul_pos h1 hB
  refine Nat.le_antisymm ?_ (by omega)
  have h8 : q * y0 ≤ B * (r + y1) + x0 := by
    have e1 : q * y0 ≤ B * B := Nat.mul_le_mul (by omega) (by omega)
    have e2 : B * B ≤ B * (r + y1) := Nat.mul_le_mul_left _ hr
    omega
  rw [Nat.le_div_iff_mul_le (by omega), show u = q * y1 + (r + y1) by omega, Nat.mul_add, Nat.add_mul _ _ B, ← Nat.mul_assoc, Nat.mul_comm (r + y1) B]
  omega

/-- a product against two limbs, by halves -/
theorem halves_le (B P r x0 hi lo : Nat) (h1 : hi = P / B) (h2 : lo = P % B) (hx : x0 < B) : P ≤ B * r + x0 ↔ (hi < r ∨ hi = r ∧ lo ≤ x0) := by
  have e := Nat.div_add_mod P B
  have hl := Nat.mod_lt P (show 0 < B by omega)
  rw [← h1, ← h2] at e
  rw [← h2] at hl
  constructor
  · intro h
    rcases Nat.lt_trichotomy hi r with h3 | h3 | h3
    · exact .inl h3
    · subst h3; exact .inr ⟨rfl, by omega⟩
    · have h4 : B * (r + 1) ≤ B * hi := Nat.mul_le_mul_left _ h3
      rw [Nat.mul_add, Nat.mul_one] at h4
      omega
  · rintro (h | ⟨rfl, h⟩)
    · have h4 : B * (hi + 1) ≤ B * r := Nat.mul_le_mul_left _ h
      rw [Nat.mul_add, Nat.mul_one] at h4
      omega
    · omega

/-! ### a part of a row -/

def seg (zs : List Nat) (o m : Nat) : List Nat := (zs.drop o).take m

theorem seg_length (zs : List Nat) (o m : Nat) (h : o + m ≤ zs.length) : (seg zs o m).length = m := by
  unfold seg; rw [List.length_take, List.length_drop]; omega

theorem take_set_succ (D : List Nat) (i v : Nat) (h : i < D.length) : (D.set i v).take (i + 1) = D.take i ++ [v] := by
  rw [take_snoc _ _ (by rw [List.length_set]; exact h), List.getElem_set_self, List.take_set_of_le (by omega)]

theorem seg_set (us : List Nat) (o i v : Nat) (h : o + i < us.length) : seg (us.set (o + i) v) o (i + 1) = seg us o i ++ [v] := by
  unfold seg
  rw [List.drop_set, if_neg (by omega), show o + i - o = i by omega]
  exact take_set_succ _ _ _ (by rw [List.length_drop]; omega)

theorem seg_succ (zs : List Nat) (o i : Nat) (h : o + i < zs.length) : seg zs o (i + 1) = seg zs o i ++ [zs[o + i]] := by
  unfold seg
  rw [take_snoc _ _ (by rw [List.length_drop]; omega), List.getElem_drop]

theorem drop_set_succ (us : List Nat) (p v : Nat) : (us.set p v).drop (p + 1) = us.drop (p + 1) := by
  rw [List.drop_set, if_pos (by omega)]

theorem getElem_of_drop {us zs : List Nat} {p : Nat} (h : us.drop p = zs.drop p) (h1 : p < us.length) (h2 : p < zs.length) : us[p] = zs[p] := by
  rw [List.drop_eq_getElem_cons h1, List.drop_eq_getElem_cons h2] at h
  exact (List.cons.inj h).1

theorem drop_succ_of_drop {us zs : List Nat} {p : Nat} (h : us.drop p = zs.drop p) : us.drop (p + 1) = zs.drop (p + 1) := by
  rw [← List.drop_drop, ← List.drop_drop, h]

/-- one place of a product taken off -/
theorem takes_step (B P V Yv Xv x v q s hi lo l2 cc ca bo bo' : Nat) (hv : V + q * Yv = Xv + P * (ca + bo)) (hx : x < B) (hqW : q < B) (hvW : v < B) (hca : ca < B) (hbo : bo ≤ 1)
    (h1 : hi = q * v / B) (h2 : lo = q * v % B) (h3 : l2 = (lo + ca + 0) % B) (h4 : cc = (lo + ca + 0) / B) (h5 : s = (x + B - l2 - bo) % B) (h6 : bo' = if x < l2 + bo then 1 else 0) :
    V + P * s + q * (Yv + P * v) = (Xv + P * x) + P * B * (hi + cc + bo') ∧ hi + cc < B := by
  have e1 : lo + B * hi = q * v := by rw [h1, h2]; exact Nat.mod_add_div _ _
  have e2 : l2 + B * cc = lo + ca := by rw [h3, h4]; exact Nat.mod_add_div _ _
  have e3 : s + l2 + bo = x + B * bo' := by
    subst h5 h6
    have : l2 < B := by rw [h3]; exact Nat.mod_lt _ (by omega)
    split
    · rw [Nat.mod_eq_of_lt (by omega)]; omega
    · rw [show x + B - l2 - bo = B + (x - l2 - bo) by omega, Nat.add_mod_left, Nat.mod_eq_of_lt (by omega)]; omega
  have e4 : s + q * v + (ca + bo) = x + B * (hi + cc + bo') := by
    rw [Nat.mul_add, Nat.mul_add]; omega
  have e5 : P * (s + q * v + (ca + bo)) = P * (x + B * (hi + cc + bo')) := by rw [e4]
  rw [Nat.mul_add P (s + q * v) (ca + bo), Nat.mul_add P s (q * v), Nat.mul_add P x _, ← Nat.mul_assoc P B] at e5
  refine ⟨?_, ?_⟩
  · rw [Nat.mul_add q, Nat.mul_left_comm q P v]
    omega
  · have e6 : q * v ≤ (B - 1) * (B - 1) := Nat.mul_le_mul (by omega) (by omega)
    have e7 : (B - 1) * (B - 1) + (B - 1) < B * B := by
      obtain ⟨m, rfl⟩ : ∃ m, B = m + 1 := ⟨B - 1, by omega⟩
      rw [Nat.add_sub_cancel, Nat.mul_add, Nat.add_mul]; omega
    have e8 : B * (hi + cc) < B * B := by rw [Nat.mul_add]; omega
    exact Nat.lt_of_mul_lt_mul_left e8

theorem gives_last (B P V Yv Xv x s ca k : Nat) (hv : V + P * ca = Xv + Yv) (hs : s = (x + ca) % B) (hk : k = (x + ca) / B) : V + P * s + P * B * k = (Xv + P * x) + Yv := by
  have e : s + B * k = x + ca := by rw [hs, hk]; exact Nat.mod_add_div _ _
  have e2 : P * (s + B * k) = P * (x + ca) := by rw [e]
  rw [Nat.mul_add, Nat.mul_add, ← Nat.mul_assoc] at e2
  omega

theorem takes_last (B P V q Yv Xv x s ca bo bo' : Nat) (hv : V + q * Yv = Xv + P * (ca + bo)) (hx : x < B) (hca : ca < B) (hbo : bo ≤ 1)
    (h5 : s = (x + B - ca - bo) % B) (h6 : bo' = if x < ca + bo then 1 else 0) : V + P * s + q * Yv = (Xv + P * x) + P * B * bo' := by
  have e3 : s + ca + bo = x + B * bo' := by
    subst h5 h6
    split
    · rw [Nat.mod_eq_of_lt (by omega)]; omega
    · rw [show x + B - ca - bo = B + (x - ca - bo) by omega, Nat.add_mod_left, Nat.mod_eq_of_lt (by omega)]; omega
  have e5 : P * (s + ca + bo) = P * (x + B * bo') := by rw [e3]
  rw [Nat.mul_add, Nat.mul_add, Nat.mul_add, ← Nat.mul_assoc P B] at e5
  rw [Nat.mul_add] at hv
  omega

end Go.Proofs.YtaeamlldocbeeaaDoor.Num

/- Plain arithmetic of a long division, the whole. -/

namespace Go.Proofs.YtaeamlldocbeeaaDoor.Num

theorem val_top3 (B : Nat) (X : List Nat) (m : Nat) (hl : X.length = m + 3) :
    val B X = val B (X.take m) + B ^ m * ((X[m + 2] * B + X[m + 1]) * B + X[m]) := by
  rw [val_take_drop B X m (by omega), val_drop B X m (by omega), val_drop B X (m + 1) (by omega), val_drop B X (m + 2) (by omega), List.drop_of_length_le (by omega)]
  simp only [val, Nat.mul_zero, Nat.add_zero]
  rw [Nat.mul_comm B X[m + 2], Nat.mul_comm B (X[m + 1] + _), Nat.add_comm X[m + 1], Nat.add_comm X[m]]

theorem val_top2 (B : Nat) (X : List Nat) (m : Nat) (hl : X.length = m + 2) :
    val B X = val B (X.take m) + B ^ m * (X[m + 1] * B + X[m]) := by
  rw [val_take_drop B X m (by omega), val_drop B X m (by omega), val_drop B X (m + 1) (by omega), List.drop_of_length_le (by omega)]
  simp only [val, Nat.mul_zero, Nat.add_zero]
  rw [Nat.mul_comm B X[m + 1], Nat.add_comm X[m]]

/-- the true digit is at most the quotient of the upper limbs -/
theorem top_quo (P a A b C : Nat) (_hP : 0 < P) (ha : a < P) (hC : 0 < C) : (a + P * A) / (b + P * C) ≤ A / C := by
  rw [Nat.le_div_iff_mul_le hC]
  have h := Nat.div_mul_le_self (a + P * A) (b + P * C)
  generalize (a + P * A) / (b + P * C) = Q at *
  rw [Nat.mul_add, Nat.mul_left_comm] at h
  have h2 : P * (Q * C) < P * (A + 1) := by rw [Nat.mul_add, Nat.mul_one]; omega
  have := Nat.lt_of_mul_lt_mul_left h2
  omega

/-- the loop that gives back what was taken too much -/
structure Back (B n D X : Nat) (g U bo : Nat) : Prop where
  eq : U + g * D = X + B ^ (n + 1) * bo
  ge : X / D ≤ g
  g : g < B
  U : U < B ^ (n + 1)
  bo : bo ≤ 1

theorem Back.done {B n D X g U : Nat} (h : Back B n D X g U 0) (hD : 0 < D) : g = X / D ∧ U = X % D := by
  have h1 := h.eq
  have h2 := h.ge
  have h3 : g ≤ X / D := by rw [Nat.le_div_iff_mul_le hD]; omega
  have e : g = X / D := by omega
  refine ⟨e, ?_⟩
  have h4 := Nat.div_add_mod X D
  rw [← e, Nat.mul_comm] at h4
  omega

theorem Back.more {B n D X g U U' k : Nat} (h : Back B n D X g U 1) (hD : 0 < D) (hDn : D < B ^ n) (hX : X < B * D) (hU' : U' < B ^ (n + 1)) (hk : U' + B ^ (n + 1) * k = U + D) :
    0 < g ∧ Back B n D X (g - 1) U' (if B ^ n ≤ U' then 1 else 0) := by
  have h1 := h.eq
  have h2 := h.U
  have h3 := h.g
  rw [Nat.mul_one] at h1
  have hgt : X / D < g := by
    rw [Nat.div_lt_iff_lt_mul hD]; omega
  have hg : 0 < g := Nat.lt_of_le_of_lt (Nat.zero_le _) hgt
  obtain ⟨g', rfl⟩ : ∃ g', g = g' + 1 := ⟨g - 1, by omega⟩
  refine ⟨hg, ?_⟩
  rw [Nat.add_sub_cancel]
  rw [Nat.add_mul, Nat.one_mul] at h1
  have hpow : B ^ (n + 1) = B * B ^ n := by rw [Nat.pow_succ, Nat.mul_comm]
  -- what was taken too much is less than g' digits
  have hq := Nat.div_add_mod X D
  have hm := Nat.mod_lt X hD
  have hle0 : g' * D ≤ X → g' ≤ X / D := fun h => by rw [Nat.le_div_iff_mul_le hD]; exact h
  generalize hQ : X / D = Q at *
  generalize X % D = R at *
  have hXlt : X < B ^ (n + 1) := by
    rw [hpow]
    exact Nat.lt_of_lt_of_le hX (Nat.mul_le_mul_left _ (by omega))
  have hk1 : k = 0 ∨ k = 1 := by
    rcases Nat.lt_or_ge k 2 with h | h
    · omega
    · have : B ^ (n + 1) * 2 ≤ B ^ (n + 1) * k := Nat.mul_le_mul_left _ h
      omega
  rcases hk1 with rfl | rfl
  · -- still too much
    have hbig : B ^ n ≤ U' := by
      have e1 : g' * D ≤ X + (B - 2) * D := by
        have : g' ≤ Q + (B - 2) := by omega
        have e2 : g' * D ≤ (Q + (B - 2)) * D := Nat.mul_le_mul_right _ this
        rw [Nat.add_mul, Nat.mul_comm Q] at e2
        omega
      have e3 : (B - 2) * D ≤ (B - 2) * B ^ n := Nat.mul_le_mul_left _ (by omega)
      have e4 : (B - 2) * B ^ n + 2 * B ^ n ≤ B * B ^ n ∨ B < 2 := by
        rcases Nat.lt_or_ge B 2 with h | h
        · exact .inr h
        · left
          rw [← Nat.add_mul]
          exact Nat.mul_le_mul_right _ (by omega)
      rcases e4 with e4 | e4
      · omega
      · omega
    rw [if_pos hbig]
    refine ⟨by omega, by rw [hQ]; omega, by omega, hU', by omega⟩
  · have hle : g' * D ≤ X := by omega
    have hg'q := hle0 hle
    have e : g' = Q := by omega
    have hsm : ¬ B ^ n ≤ U' := by
      rw [← e, Nat.mul_comm] at hq
      omega
    rw [if_neg hsm]
    exact ⟨by omega, by rw [hQ]; omega, by omega, hU', by omega⟩

theorem top_zero {B : Nat} {us : List Nat} {n : Nat} (hd : Dg B us) (hl : us.length = n + 1) : us[n] = 0 ↔ ¬ B ^ n ≤ val B us := by
  have e := val_take_drop B us n (by omega)
  rw [val_drop B us n (by omega), List.drop_of_length_le (by omega)] at e
  simp only [val, Nat.mul_zero, Nat.add_zero] at e
  have h1 := val_lt (hd.take n)
  rw [List.length_take, Nat.min_eq_left (by omega)] at h1
  constructor
  · intro h
    rw [h, Nat.mul_zero, Nat.add_zero] at e
    omega
  · intro h
    rcases Nat.eq_zero_or_pos us[n] with h2 | h2
    · exact h2
    · have : B ^ n * 1 ≤ B ^ n * us[n] := Nat.mul_le_mul_left _ h2
      omega

theorem rest_seg (B : Nat) (rs : List Nat) (j m : Nat) (h : j + m ≤ rs.length) : val B (rs.drop j) = val B (seg rs j m) + B ^ m * val B (rs.drop (j + m)) := by
  rw [val_take_drop B (rs.drop j) m (by rw [List.length_drop]; omega), List.drop_drop]; rfl

/-- the part of a row from which one digit of the quotient is taken -/
theorem quo_part {B : Nat} {rs : List Nat} (dr : Dg B rs) {j n D : Nat} (hl : j + n + 1 ≤ rs.length) (h1 : val B (rs.drop (j + 1)) < D) (hD : D < B ^ n) :
    val B (rs.drop j) = val B (seg rs j (n + 1)) ∧ val B (seg rs j (n + 1)) < B * D ∧ val B (rs.drop (j + n + 1)) = 0 := by
  have e1 := rest_seg B rs (j + 1) n (by omega)
  have e0 : val B (rs.drop (j + 1 + n)) = 0 := by
    rcases Nat.eq_zero_or_pos (val B (rs.drop (j + 1 + n))) with h | h
    · exact h
    · have : B ^ n * 1 ≤ B ^ n * val B (rs.drop (j + 1 + n)) := Nat.mul_le_mul_left _ h
      omega
  have e2 := rest_seg B rs j (n + 1) (by omega)
  rw [show j + (n + 1) = j + 1 + n by omega, e0, Nat.mul_zero, Nat.add_zero] at e2
  have e3 := val_drop B rs j (by omega)
  have e4 := dr.at j (by omega)
  have e5 : B * (val B (rs.drop (j + 1)) + 1) ≤ B * D := Nat.mul_le_mul_left _ h1
  rw [Nat.mul_add, Nat.mul_one] at e5
  refine ⟨e2, by omega, by rw [show j + n + 1 = j + 1 + n by omega]; exact e0⟩

/-- the guessed digit is not too small -/
theorem guess_ge {B : Nat} (hB : 1 < B) {X D : List Nat} {n : Nat} (dX : Dg B X) (hX : X.length = n + 1) (hD : D.length = n) (hn : 2 ≤ n)
    {x2 x1 x0 y1 y0 : Nat} (g2 : X.getD n 0 = x2) (g1 : X.getD (n - 1) 0 = x1) (g0 : X.getD (n - 2) 0 = x0) (k1 : D.getD (n - 1) 0 = y1) (k0 : D.getD (n - 2) 0 = y0) (hy : 0 < y1) :
    val B X / val B D ≤ ((x2 * B + x1) * B + x0) / (y1 * B + y0) := by
  obtain ⟨m, rfl⟩ : ∃ m, n = m + 2 := ⟨n - 2, by omega⟩
  have eX := val_top3 B X m (by omega)
  have eD := val_top2 B D m (by omega)
  simp only [List.getD, show m + 2 - 1 = m + 1 by omega, show m + 2 - 2 = m by omega] at g2 g1 g0 k1 k0
  rw [List.getElem?_eq_getElem (by omega), Option.getD_some] at g2 g1 g0 k1 k0
  rw [g2, g1, g0] at eX
  rw [k1, k0] at eD
  rw [eX, eD]
  have h1 := val_lt (dX.take m)
  rw [List.length_take, Nat.min_eq_left (by omega)] at h1
  exact top_quo _ _ _ _ _ (Nat.pow_pos (by omega)) h1 (by have : 0 < y1 * B := Nat.mul_pos hy (by omega); omega)

theorem guess_lt {B x2 x1 x0 y1 y0 : Nat} (h : x2 < y1) (h1 : x1 < B) (h0 : x0 < B) : ((x2 * B + x1) * B + x0) / (y1 * B + y0) < B := by
  have e6 : (x2 + 1) * B ≤ y1 * B := Nat.mul_le_mul_right _ h
  rw [Nat.add_mul, Nat.one_mul] at e6
  have e7 : (x2 * B + x1 + 1) * B ≤ (y1 * B) * B := Nat.mul_le_mul_right _ (by omega)
  rw [Nat.add_mul, Nat.one_mul] at e7
  rw [Nat.div_lt_iff_lt_mul (by omega), Nat.mul_comm B, Nat.add_mul (y1 * B)]
  omega

theorem seg_getD (rs : List Nat) (j m i : Nat) (h : i < m) : (seg rs j m).getD i 0 = rs.getD (j + i) 0 := by
  simp [seg, List.getD, h]

theorem Dg.seg {B : Nat} {rs : List Nat} (h : Dg B rs) (j m : Nat) : Dg B (seg rs j m) := (h.drop j).take m

/-- what the whole division comes to -/
theorem quo_end (va vb s q r : Nat) (h : q * (vb * 2 ^ s) + r = va * 2 ^ s) (hr : r < vb * 2 ^ s) : q = va / vb ∧ r / 2 ^ s = va % vb := by
  have hp := Nat.two_pow_pos s
  have e1 : va * 2 ^ s / (vb * 2 ^ s) = q := by
    rw [← h, Nat.mul_comm q, Nat.mul_add_div (by omega), Nat.div_eq_of_lt hr, Nat.add_zero]
  have e2 : va * 2 ^ s % (vb * 2 ^ s) = r := by
    rw [← h, Nat.mul_comm q, Nat.mul_add_mod, Nat.mod_eq_of_lt hr]
  rw [Nat.mul_div_mul_right _ _ hp] at e1
  rw [Nat.mul_mod_mul_right] at e2
  exact ⟨e1.symm, by rw [← e2, Nat.mul_div_cancel _ hp]⟩

end Go.Proofs.YtaeamlldocbeeaaDoor.Num

/- Plain arithmetic of the reference's digits (base 2^32) against limbs (base 2^64). -/

namespace Go.Proofs.YtaeamlldocbeeaaDoor.Num

theorem pow_VW (i : Nat) : 4294967296 ^ (2 * i) = 18446744073709551616 ^ i := by
  rw [Nat.pow_mul]

theorem eq_dig {B : Nat} (hB : 1 < B) {zs : List Nat} (h : Dg B zs) {v : Nat} (hv : val B zs = v) (hl : zs.length = (dig B v).length) : zs = dig B v := by
  have e := dig_of_val B hB h v hv
  have e2 : tlen zs = zs.length := by
    have := congrArg List.length e
    rw [List.length_take, Nat.min_eq_left (tlen_le zs)] at this
    omega
  rw [← e, e2, List.take_length]

/-- how many limbs a number has, out of its digits -/
theorem limbs_of_digits (v : Nat) : (dig 18446744073709551616 v).length = ((dig 4294967296 v).length + 1) / 2 := by
  have h1 := dig_length_le 4294967296 (by omega) (dig 4294967296 v).length v
  have h2 := lt_dig_length 4294967296 (by omega) ((dig 4294967296 v).length - 1) v
  generalize (dig 4294967296 v).length = L at *
  have hlt := h1.1 (Nat.le_refl _)
  apply Nat.le_antisymm
  · rw [dig_length_le _ (by omega), ← pow_VW]
    exact Nat.lt_of_lt_of_le hlt (Nat.pow_le_pow_right (by omega) (by omega))
  · rcases Nat.eq_zero_or_pos L with h | h
    · subst h; exact Nat.zero_le _
    · have hge := h2.1 (by omega)
      have := (lt_dig_length 18446744073709551616 (by omega) ((L + 1) / 2 - 1) v).2 (by
        rw [← pow_VW]
        exact Nat.le_trans (Nat.pow_le_pow_right (by omega) (by omega)) hge)
      omega

theorem set_grow2 (zs : List Nat) (i N s t : Nat) (hz : zs.length = i) (h : i + 1 < N) :
    ((zs ++ List.replicate (N - i) 0).set i s).set (i + 1) t = (zs ++ [s, t]) ++ List.replicate (N - (i + 2)) 0 := by
  rw [set_grow zs i N s 0 hz (by omega), set_grow (zs ++ [s]) (i + 1) N t 0 (by rw [List.length_append, hz]; rfl) h]
  simp

theorem val_two (B : Nat) (xs : List Nat) (s t : Nat) : val B (xs ++ [s, t]) = val B xs + B ^ xs.length * (s + B * t) := by
  rw [val_append]; simp [val]

end Go.Proofs.YtaeamlldocbeeaaDoor.Num

/- Bits and bytes at the base 2^32. -/

namespace Go.Proofs.YtaeamlldocbeeaaDoor.Num

theorem pow_V (q : Nat) : 4294967296 ^ q = 2 ^ (32 * q) := by
  rw [show (4294967296 : Nat) = 2 ^ 32 from rfl, ← Nat.pow_mul]

theorem bitLen_digitsV {xs : List Nat} {k : Nat} (hd : Dg 4294967296 xs) (hk : xs.length = k + 1) (h0 : xs[k] ≠ 0) :
    bitLen (val 4294967296 xs) = 32 * k + bitLen xs[k] := by
  have e : val 4294967296 xs / 2 ^ (32 * k) = xs[k] := by
    rw [← pow_V, val_div_pow (by omega) hd, val_drop _ _ _ (by omega), List.drop_of_length_le (by omega)]
    simp [val]
  rw [← e]
  exact bitLen_shift _ _ (by rw [e]; exact h0)

/-- one bit of a number, out of the digit that holds it -/
theorem bit_digitV {xs : List Nat} (h : Dg 4294967296 xs) (q k : Nat) (hk : k < 32) :
    val 4294967296 xs / 2 ^ (32 * q + k) % 2 = xs.getD q 0 / 2 ^ k % 2 := by
  rw [Nat.pow_add, ← Nat.div_div_eq_div_mul, ← pow_V, val_div_pow (by omega) h, drop_getD]
  have hW : (4294967296 : Nat) = 2 ^ k * (2 * 2 ^ (31 - k)) := by
    rw [Nat.mul_comm 2, ← Nat.pow_succ, ← Nat.pow_add, show k + (31 - k + 1) = 32 by omega]
  generalize val 4294967296 (xs.drop (q + 1)) = r
  generalize xs.getD q 0 = d
  rw [hW, Nat.mul_assoc, Nat.add_mul_div_left _ _ (Nat.two_pow_pos k), Nat.mul_assoc, Nat.add_mul_mod_self_left]

theorem pow_V256 (p : Nat) : 4294967296 ^ p = 256 ^ (4 * p) := by
  rw [show (4294967296 : Nat) = 256 ^ 4 from rfl, ← Nat.pow_mul]

/-- one byte more, the highest first -/
theorem fb_stepV (zs : List Nat) (V c n i k p r o : Nat) (hk : k + 1 + i = n) (hkp : k = 4 * p + r) (hr : r < 4) (hc : c < 256)
    (hp : p < zs.length) (ho : zs[p] = o) (dz : Dg 4294967296 zs) (hv : val 4294967296 zs = V * 256 ^ (n - i)) :
    (o ||| (c * 2 ^ (r * 8))) = o + c * 2 ^ (r * 8) ∧ o + c * 2 ^ (r * 8) < 4294967296 ∧
    val 4294967296 (zs.set p (o + c * 2 ^ (r * 8))) = (V * 256 + c) * 256 ^ (n - (i + 1)) := by
  have hni : n - i = 4 * p + (r + 1) := by omega
  have hW : (4294967296 : Nat) = 256 ^ (r + 1) * 256 ^ (3 - r) := by rw [← Nat.pow_add, show r + 1 + (3 - r) = 4 by omega]
  have ho2 : o = 256 ^ (r + 1) * (V % 256 ^ (3 - r)) := by
    have e1 := val_div_pow (B := 4294967296) (by omega) dz p
    rw [val_drop _ _ _ hp, ho] at e1
    have e2 : o = val 4294967296 zs / 4294967296 ^ p % 4294967296 := by
      rw [e1, Nat.add_mul_mod_self_left, Nat.mod_eq_of_lt]
      rw [← ho]; exact dz.at p hp
    rw [e2, hv, hni, pow_V256, Nat.pow_add, Nat.mul_comm V, Nat.mul_assoc, Nat.mul_div_cancel_left _ (Nat.pow_pos (by omega))]
    conv => lhs; rw [hW]
    rw [Nat.mul_mod_mul_left]
  have hy : c * 2 ^ (r * 8) < 256 ^ (r + 1) := by
    rw [← pow_256, Nat.pow_succ, Nat.mul_comm]
    exact Nat.mul_lt_mul_of_pos_left hc (Nat.pow_pos (by omega))
  refine ⟨?_, ?_, ?_⟩
  · rw [ho2, Nat.or_comm]
    rw [pow_256 (r + 1)] at hy ⊢
    rw [or_low _ _ _ hy]
    exact Nat.add_comm _ _
  · have h1 : V % 256 ^ (3 - r) < 256 ^ (3 - r) := Nat.mod_lt _ (Nat.pow_pos (by omega))
    have h2 : 256 ^ (r + 1) * (V % 256 ^ (3 - r) + 1) ≤ 256 ^ (r + 1) * 256 ^ (3 - r) := Nat.mul_le_mul_left _ h1
    rw [← hW, Nat.mul_add, ← ho2] at h2
    omega
  · have e1 := val_set 4294967296 zs p (o + c * 2 ^ (r * 8)) hp
    rw [ho, Nat.mul_add] at e1
    have e3 : val 4294967296 (zs.set p (o + c * 2 ^ (r * 8))) = val 4294967296 zs + 4294967296 ^ p * (c * 2 ^ (r * 8)) := by omega
    rw [e3, hv, hni, ← pow_256, pow_V256, Nat.mul_left_comm, ← Nat.pow_add, show n - (i + 1) = 4 * p + r by omega, show 4 * p + (r + 1) = 4 * p + r + 1 by omega, Nat.pow_succ, Nat.add_mul, Nat.mul_assoc V, Nat.mul_comm 256]

/-- one byte of a number, out of the digit that holds it -/
theorem byte_digitV {xs : List Nat} (h : Dg 4294967296 xs) (p r : Nat) (hr : r < 4) :
    val 4294967296 xs / 256 ^ (4 * p + r) % 256 = xs.getD p 0 / 2 ^ (r * 8) % 256 := by
  rw [Nat.pow_add, ← Nat.div_div_eq_div_mul, ← pow_V256, val_div_pow (by omega) h, drop_getD, ← pow_256]
  have hW : (4294967296 : Nat) = 256 ^ r * (256 * 256 ^ (3 - r)) := by
    rw [Nat.mul_comm 256, ← Nat.pow_succ, ← Nat.pow_add, show r + (3 - r + 1) = 4 by omega]
  generalize val 4294967296 (xs.drop (p + 1)) = q
  generalize xs.getD p 0 = d
  rw [hW, Nat.mul_assoc, Nat.add_mul_div_left _ _ (Nat.pow_pos (by omega)), Nat.mul_assoc, Nat.add_mul_mod_self_left]

theorem bitLen_half (t : Nat) (h : 0 < t) : bitLen t = bitLen (t / 2) + 1 := by
  have h1 : ∀ k, bitLen t ≤ k + 1 ↔ bitLen (t / 2) ≤ k := by
    intro k
    rw [bitLen_le, bitLen_le, Nat.pow_succ]
    omega
  have h2 : 0 < bitLen t := (lt_bitLen t 0).2 (by rw [Nat.pow_zero]; exact h)
  have a1 := (h1 (bitLen t - 1)).1 (by omega)
  have a2 := (h1 (bitLen (t / 2))).2 (Nat.le_refl _)
  omega

theorem beN_cons (n v : Nat) : beN (n + 1) v = (v / 256 ^ n % 256) :: beN n v := by
  unfold beN
  rw [List.range_succ_eq_map, List.map_cons, List.map_map]
  congr 1
  apply List.map_congr_left
  intro i _
  simp only [Function.comp]
  rw [show n + 1 - 1 - (i + 1) = n - 1 - i by omega]

theorem beN_pad (n k v : Nat) (hv : v < 256 ^ k) (hk : k ≤ n) : beN n v = List.replicate (n - k) 0 ++ beN k v := by
  obtain ⟨d, rfl⟩ : ∃ d, n = k + d := ⟨n - k, by omega⟩
  rw [show k + d - k = d by omega]
  clear hk
  induction d with
  | zero => simp
  | succ d ih =>
    rw [← Nat.add_assoc, beN_cons, ih, List.replicate_succ, List.cons_append]
    congr 1
    rw [Nat.div_eq_of_lt, Nat.zero_mod]
    exact Nat.lt_of_lt_of_le hv (Nat.pow_le_pow_right (by omega) (by omega))

end Go.Proofs.YtaeamlldocbeeaaDoor.Num

/- Long division by one leading digit: plain arithmetic. -/

namespace Go.Proofs.YtaeamlldocbeeaaDoor.Num

theorem val_top1 (B : Nat) (D : List Nat) (m : Nat) (h : D.length = m + 1) : val B D = val B (D.take m) + B ^ m * D[m] := by
  have e := val_take_drop B D m (by omega)
  rw [val_drop B D m (by omega), List.drop_of_length_le (by omega)] at e
  simpa only [val, Nat.mul_zero, Nat.add_zero] using e

theorem guess1_ge {B : Nat} (hB : 1 < B) {X D : List Nat} {n : Nat} (dX : Dg B X) (hX : X.length = n + 1) (hD : D.length = n) (hn : 1 ≤ n)
    {x1 x0 y1 : Nat} (g1 : X.getD n 0 = x1) (g0 : X.getD (n - 1) 0 = x0) (k1 : D.getD (n - 1) 0 = y1) (hy : 0 < y1) :
    val B X / val B D ≤ (x1 * B + x0) / y1 := by
  obtain ⟨m, rfl⟩ : ∃ m, n = m + 1 := ⟨n - 1, by omega⟩
  have eX := val_top2 B X m (by omega)
  have eD := val_top1 B D m (by omega)
  simp only [List.getD, show m + 1 - 1 = m by omega] at g1 g0 k1
  rw [List.getElem?_eq_getElem (by omega), Option.getD_some] at g1 g0 k1
  rw [g1, g0] at eX
  rw [k1] at eD
  rw [eX, eD]
  have h1 := val_lt (dX.take m)
  rw [List.length_take, Nat.min_eq_left (by omega)] at h1
  exact top_quo _ _ _ _ _ (Nat.pow_pos (by omega)) h1 hy

/-- what the whole division comes to -/
theorem quo_end2 (va vb s q r : Nat) (hp : 0 < s) (h : q * (vb * s) + r = va * s) (hr : r < vb * s) : q = va / vb ∧ r / s = va % vb := by
  have e1 : va * s / (vb * s) = q := by
    rw [← h, Nat.mul_comm q, Nat.mul_add_div (by omega), Nat.div_eq_of_lt hr, Nat.add_zero]
  have e2 : va * s % (vb * s) = r := by
    rw [← h, Nat.mul_comm q, Nat.mul_add_mod, Nat.mod_eq_of_lt hr]
  rw [Nat.mul_div_mul_right _ _ hp] at e1
  rw [Nat.mul_mod_mul_right] at e2
  exact ⟨e1.symm, by rw [← e2, Nat.mul_div_cancel _ hp]⟩

/-- the scale leaves the length as it is -/
theorem scale_lt {B : Nat} {Y : List Nat} {m : Nat} (hd : Dg B Y) (hl : Y.length = m + 1) (sc : Nat) (hs : sc = B / (Y[m] + 1)) : val B Y * sc < B ^ (m + 1) ∨ sc = 0 := by
  rcases Nat.eq_zero_or_pos sc with h0 | h0
  · exact .inr h0
  left
  have e := val_top1 B Y m hl
  have h1 := val_lt (hd.take m)
  rw [List.length_take, Nat.min_eq_left (by omega)] at h1
  have h2 : val B Y < B ^ m * (Y[m] + 1) := by rw [Nat.mul_add]; omega
  have h3 : (Y[m] + 1) * sc ≤ B := by rw [hs, Nat.mul_comm]; exact Nat.div_mul_le_self _ _
  have h4 : val B Y * sc < B ^ m * (Y[m] + 1) * sc := Nat.mul_lt_mul_of_pos_right h2 h0
  have h5 : B ^ m * ((Y[m] + 1) * sc) ≤ B ^ m * B := Nat.mul_le_mul_left _ h3
  rw [Nat.pow_succ]
  rw [← Nat.mul_assoc] at h5
  omega

/-- the rest at the start is below the divisor -/
theorem start_lt {B : Nat} (hB : 1 < B) {us : List Nat} (du : Dg B us) {u v sc n1 n N : Nat} (hu : val B us = u * sc) (hul : u < B ^ n1) (hv : B ^ (n - 1) ≤ v) (hn : 1 ≤ n) (hN : N + n = n1 + 1) (hsc : 0 < sc) :
    val B (us.drop N) < v * sc := by
  rw [← val_div_pow hB du, hu, Nat.div_lt_iff_lt_mul (Nat.pow_pos (by omega))]
  have h1 : u * sc < B ^ n1 * sc := Nat.mul_lt_mul_of_pos_right hul hsc
  have h2 : B ^ n1 = B ^ (n - 1) * B ^ N := by rw [← Nat.pow_add]; congr 1; omega
  have h3 : B ^ (n - 1) * (sc * B ^ N) ≤ v * (sc * B ^ N) := Nat.mul_le_mul_right _ hv
  rw [h2, Nat.mul_assoc, Nat.mul_comm (B ^ N)] at h1
  rw [Nat.mul_assoc]
  omega

end Go.Proofs.YtaeamlldocbeeaaDoor.Num

/- Montgomery's multiplication and powers modulo a number: plain arithmetic. -/

namespace Go.Proofs.YtaeamlldocbeeaaDoor.Num

/-- Newton's step for an inverse modulo a power of two -/
theorem newton (d W m x y : Int) (h : d ∣ 1 - m * x) (hd : d * d ∣ W) (hy : W ∣ y - x * (2 - m * x)) : d * d ∣ 1 - m * y := by
  have e : 1 - m * y = (1 - m * x) * (1 - m * x) - m * (y - x * (2 - m * x)) := by grind
  rw [e]
  exact Int.dvd_sub (Int.mul_dvd_mul h h) (Int.dvd_trans (Int.dvd_trans hd hy) (Int.dvd_mul_left _ _))

theorem two_pow_sq (k : Nat) : (2 : Int) ^ (2 ^ (k + 1)) = 2 ^ (2 ^ k) * 2 ^ (2 ^ k) := by
  rw [← Int.pow_add]
  congr 1
  rw [Nat.pow_succ]; omega

theorem newton_round (k : Nat) (hk : k < 6) (m x y : Int) (h : (2 : Int) ^ (2 ^ k) ∣ 1 - m * x) (hy : (18446744073709551616 : Int) ∣ y - x * (2 - m * x)) :
    (2 : Int) ^ (2 ^ (k + 1)) ∣ 1 - m * y := by
  rw [two_pow_sq]
  refine newton _ 18446744073709551616 m x y h ?_ hy
  rw [← two_pow_sq]
  have h6 : k = 0 ∨ k = 1 ∨ k = 2 ∨ k = 3 ∨ k = 4 ∨ k = 5 := by omega
  rcases h6 with rfl | rfl | rfl | rfl | rfl | rfl <;> decide

/-- one round of the reduction: the sum is divisible -/
theorem redc_exact (W S m ni : Nat) (h : (m * ni + 1) % W = 0) : (S + ((S % W) * ni % W) * m) % W = 0 := by
  obtain ⟨k, hk⟩ := Nat.dvd_of_mod_eq_zero h
  apply Nat.mod_eq_zero_of_dvd
  have e1 := Nat.div_add_mod S W
  have e2 := Nat.div_add_mod (S % W * ni) W
  generalize S % W * ni % W = f at *
  generalize S % W * ni / W = p at *
  generalize S % W = s at *
  generalize S / W = q at *
  have h1 : W ∣ W * (p * m) + (f * m + s) := ⟨s * k, by grind⟩
  have h2 : W ∣ f * m + s := (Nat.dvd_add_right (Nat.dvd_mul_right W (p * m))).1 h1
  have h3 : S + f * m = W * q + (f * m + s) := by omega
  rw [h3]
  exact Nat.dvd_add (Nat.dvd_mul_right _ _) h2

/-- what the rounds keep: T R' = A b + u m -/
structure Redc (W m b P A T : Nat) : Prop where
  ex : ∃ u, u < P ∧ T * P = A * b + u * m
  hA : A < P

theorem Redc.lt {W m b P A T : Nat} (h : Redc W m b P A T) (hm : 0 < m) : T < b + m := by
  obtain ⟨u, hu, e⟩ := h.ex
  have h1 : A * b ≤ (P - 1) * b := Nat.mul_le_mul_right _ (by have := h.hA; omega)
  have h2 : u * m ≤ (P - 1) * m := Nat.mul_le_mul_right _ (by omega)
  have h3 : T * P ≤ (P - 1) * (b + m) := by rw [e, Nat.mul_add]; omega
  apply Nat.lt_of_mul_lt_mul_right (a := P)
  have h4 : (P - 1) * (b + m) < P * (b + m) := Nat.mul_lt_mul_of_pos_right (by omega) (by omega)
  rw [Nat.mul_comm (b + m) P]
  omega

theorem Redc.step {W m b P A T : Nat} (h : Redc W m b P A T) (a ni T' : Nat) (ha : a < W) (hW : 0 < W) (hni : (m * ni + 1) % W = 0)
    (hT' : T' = (T + a * b + ((T + a * b) % W * ni % W) * m) / W) : Redc W m b (P * W) (A + P * a) T' := by
  obtain ⟨u, hu, e⟩ := h.ex
  have hx := redc_exact W (T + a * b) m ni hni
  have hf : (T + a * b) % W * ni % W < W := Nat.mod_lt _ hW
  generalize (T + a * b) % W * ni % W = f at *
  have hd := Nat.div_add_mod (T + a * b + f * m) W
  rw [hx, Nat.add_zero, ← hT'] at hd
  have hA := h.hA
  have up : ∀ x y : Nat, x < P → y < W → x + P * y < P * W := by
    intro x y h1 h2
    have : P * (y + 1) ≤ P * W := Nat.mul_le_mul_left _ h2
    rw [Nat.mul_add, Nat.mul_one] at this
    omega
  refine ⟨⟨u + P * f, up _ _ hu hf, ?_⟩, up _ _ hA ha⟩
  grind

/-- the way out: one subtraction at most -/
theorem Redc.fin {W m b P A T : Nat} (h : Redc W m b P A T) (hb : b < m) (r : Nat) (hr : r = if T < m then T else T - m) : r < m ∧ (r * P) % m = (A * b) % m := by
  have hT := h.lt (by omega)
  obtain ⟨u, hu, e⟩ := h.ex
  have h0 : (T * P) % m = (A * b) % m := by rw [e, Nat.add_mul_mod_self_right]
  by_cases hlt : T < m
  · rw [if_pos hlt] at hr
    subst hr
    exact ⟨hlt, h0⟩
  · rw [if_neg hlt] at hr
    refine ⟨by omega, ?_⟩
    rw [← h0]
    have : T * P = r * P + P * m := by
      obtain rfl : T = r + m := by omega
      rw [Nat.add_mul, Nat.mul_comm m P]
    rw [this, Nat.add_mul_mod_self_right]

theorem coprime_pow_W (m n : Nat) (h : m % 2 = 1) : Nat.Coprime (18446744073709551616 ^ n) m := by
  have h2 : Nat.Coprime 2 m := by
    show Nat.gcd 2 m = 1
    rw [Nat.gcd_rec, h]; rfl
  rw [pow_W]
  exact Nat.Coprime.pow_left _ h2

/-- a factor that has nothing in common with the modulus may be struck -/
theorem mod_cancel {m R r x : Nat} (hc : Nat.Coprime R m) (h : (r * R) % m = (x * R) % m) (hr : r < m) : r = x % m := by
  have hm : 0 < m := by omega
  have h' : (r * R) % m = ((x % m) * R) % m := by rw [h, Nat.mul_mod x R, Nat.mul_mod (x % m) R, Nat.mod_mod]
  have hx : x % m < m := Nat.mod_lt _ hm
  generalize x % m = y at *
  have key : ∀ p q : Nat, p ≤ q → q < m → (q * R) % m = (p * R) % m → p = q := by
    intro p q hpq hq hh
    have h1 := Nat.sub_mod_eq_zero_of_mod_eq hh
    rw [← Nat.sub_mul] at h1
    have h2 : m ∣ (q - p) * R := Nat.dvd_of_mod_eq_zero h1
    have h3 : m ∣ q - p := Nat.Coprime.dvd_of_dvd_mul_right hc.symm h2
    have h4 := Nat.eq_zero_of_dvd_of_lt h3 (by omega)
    omega
  rcases Nat.le_total r y with hle | hle
  · exact key r y hle hx h'.symm
  · exact (key y r hle hr h').symm

/-- a product in Montgomery's form -/
theorem mont_mul {m R p q r : Nat} (hc : Nat.Coprime R m) (hr : r < m) (h : (r * R) % m = ((p * R) % m * ((q * R) % m)) % m) : r = (p * q * R) % m := by
  refine mod_cancel hc ?_ hr
  rw [h, ← Nat.mul_mod]
  congr 1
  grind

theorem mont_to {m R a r : Nat} (hc : Nat.Coprime R m) (hr : r < m) (h : (r * R) % m = (a * ((R * R) % m)) % m) : r = (a * R) % m := by
  refine mod_cancel hc ?_ hr
  rw [h, Nat.mul_mod, Nat.mod_mod, ← Nat.mul_mod, Nat.mul_assoc]

theorem mont_from {m R p r : Nat} (hc : Nat.Coprime R m) (hr : r < m) (h : (r * R) % m = ((p * R) % m * 1) % m) : r = p % m := by
  refine mod_cancel hc ?_ hr
  rw [h, Nat.mul_one, Nat.mod_mod]

/-- a product's step behind a carry: one digit more -/
theorem zadd_step (W P V Z F f v x ca l2 t2 : Nat) (hv : V + P * ca = Z + F) (he : l2 + W * t2 = f * v + x + ca) :
    (V + P * l2) + P * W * t2 = (Z + P * x) + (F + P * (f * v)) := by
  have : P * l2 + P * W * t2 = P * (f * v) + P * x + P * ca := by
    rw [Nat.mul_assoc, ← Nat.mul_add, he, Nat.mul_add, Nat.mul_add]
  omega

theorem zadd_fin (W P Us Zs F ca x0 x1 s0 c0 s1 k V2 V1 : Nat) (hv : Us + P * ca = Zs + F) (h1 : V1 + P * x0 = Us + P * s0) (h2 : V2 + P * W * x1 = V1 + P * W * s1)
    (e0 : s0 + W * c0 = x0 + ca) (e1 : s1 + W * k = x1 + c0) : V2 + P * W * W * k = Zs + F := by
  have a0 : P * s0 + P * W * c0 = P * x0 + P * ca := by rw [Nat.mul_assoc, ← Nat.mul_add, e0, Nat.mul_add]
  have a1 : P * W * s1 + P * W * W * k = P * W * x1 + P * W * c0 := by rw [Nat.mul_assoc (P * W) W k, ← Nat.mul_add, e1, Nat.mul_add]
  omega

/-- what 'below' answers -/
theorem below_val (P Z M O ov bo : Nat) (hm : M < P) (hO : O < P) (he : O + M = Z + P * bo) (hV : Z + P * ov < 2 * M) (hbo : bo ≤ 1) :
    (ov < bo → Z = if Z + P * ov < M then Z + P * ov else Z + P * ov - M) ∧ (¬ ov < bo → O = if Z + P * ov < M then Z + P * ov else Z + P * ov - M) := by
  have hb : bo = 0 ∨ bo = 1 := by omega
  have ho : ov = 0 ∨ ov = 1 ∨ 2 ≤ ov := by omega
  rcases ho with rfl | rfl | ho
  · rcases hb with rfl | rfl
    · constructor
      · intro h; omega
      · intro _; rw [if_neg (by omega)]; omega
    · constructor
      · intro _; rw [if_pos (by omega)]; omega
      · intro h; omega
  · rcases hb with rfl | rfl
    · constructor
      · intro h; omega
      · intro _; omega
    · constructor
      · intro h; omega
      · intro _; rw [if_neg (by omega)]; omega
  · have : P * 2 ≤ P * ov := Nat.mul_le_mul_left _ ho
    omega

/-- a list without its first digit -/
theorem val_shift (B : Nat) (zs : List Nat) (hd : Dg B zs) (hl : 0 < zs.length) : val B (zs.drop 1) = val B zs / B := by
  cases zs with
  | nil => simp at hl
  | cons x xs =>
    have hx : x < B := hd x (by simp)
    rw [List.drop_one, List.tail_cons, val, Nat.add_mul_div_left _ _ (by omega), Nat.div_eq_of_lt hx, Nat.zero_add]

/-- a bit more of an exponent -/
theorem exp_bit (e i : Nat) : e / 2 ^ i = 2 * (e / 2 ^ (i + 1)) + e / 2 ^ i % 2 := by
  rw [Nat.pow_succ, ← Nat.div_div_eq_div_mul]
  omega

theorem pow_double (a e : Nat) : a ^ e * a ^ e = a ^ (2 * e) := by
  rw [← Nat.pow_add]
  congr 1
  omega

theorem mod_sq (x m : Nat) : (x % m) * (x % m) % m = x * x % m := (Nat.mul_mod _ _ _).symm

end Go.Proofs.YtaeamlldocbeeaaDoor.Num
