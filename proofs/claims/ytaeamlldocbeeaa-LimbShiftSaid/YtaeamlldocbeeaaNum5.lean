/- Plain arithmetic of a long division. -/
import Derived.Test.YtaeamlldocbeeaaNum4
namespace Go.Proofs.Ytaeamlldocbeeaa.Num

theorem set_top (qs : List Nat) (j q : Nat) : (List.replicate (j + 1) 0 ++ qs).set j q = List.replicate j 0 ++ (q :: qs) := by
  rw [List.replicate_succ', List.append_assoc, List.set_append_right _ _ (by simp)]
  simp

/-- one place of a division by one digit -/
theorem small_step (B x v d q r : Nat) (hd : 0 < d) (hq : q = ((v % d) * B + x) / d) (hr : r = ((v % d) * B + x) % d) :
    q + B * (v / d) = (x + B * v) / d ∧ r = (x + B * v) % d := by
  have e : x + B * v = d * (B * (v / d)) + ((v % d) * B + x) := by
    have h := Nat.div_add_mod v d
    have h2 : B * v = B * (d * (v / d)) + B * (v % d) := by rw [← Nat.mul_add, h]
    rw [h2, Nat.mul_left_comm, Nat.mul_comm (v % d)]; omega
  rw [e, Nat.mul_add_div hd, Nat.mul_add_mod, hq, hr]
  exact ⟨by omega, rfl⟩

theorem small_digit (B x v d : Nat) (hd : 0 < d) (hx : x < B) : ((v % d) * B + x) / d < B := by
  rw [Nat.div_lt_iff_lt_mul hd]
  have h1 := Nat.mod_lt v hd
  have h2 : (v % d + 1) * B ≤ d * B := Nat.mul_le_mul_right _ h1
  rw [Nat.add_mul, Nat.one_mul, Nat.mul_comm d] at h2
  omega

/-- what holds at the head of the loop that corrects a guessed digit -/
structure Guess (B y1 y0 u x0 q r : Nat) : Prop where
  eq : u = q * y1 + r
  ge : (u * B + x0) / (y1 * B + y0) ≤ q
  q : q < B
  r : r < B

theorem Guess.le_iff {B y1 y0 u x0 q r : Nat} (h : Guess B y1 y0 u x0 q r) (h1 : 0 < y1) (hB : 0 < B) :
    q ≤ (u * B + x0) / (y1 * B + y0) ↔ q * y0 ≤ B * r + x0 := by
  have hp : 0 < y1 * B := Nat.mul_pos h1 hB
  rw [Nat.le_div_iff_mul_le (by omega), h.eq, Nat.mul_add, Nat.add_mul, ← Nat.mul_assoc, Nat.mul_comm r B]
  omega

theorem Guess.start {B y1 y0 u x0 : Nat} (h1 : 0 < y1) (hB : 0 < B) (hx0 : x0 < B) (hq : u / y1 < B) (hy1 : y1 ≤ B) : Guess B y1 y0 u x0 (u / y1) (u % y1) := by
  refine ⟨(Nat.div_add_mod' u y1).symm, ?_, hq, by have := Nat.mod_lt u h1; omega⟩
  have hp : 0 < y1 * B := Nat.mul_pos h1 hB
  rw [Nat.le_div_iff_mul_le h1]
  have h2 := Nat.div_mul_le_self (u * B + x0) (y1 * B + y0)
  generalize (u * B + x0) / (y1 * B + y0) = Q at *
  have h3 : Q * (y1 * B) ≤ Q * (y1 * B + y0) := Nat.mul_le_mul_left _ (by omega)
  rw [← Nat.mul_assoc] at h3
  have h4 : Q * y1 * B < (u + 1) * B := by rw [Nat.add_mul, Nat.one_mul]; omega
  have := Nat.lt_of_mul_lt_mul_right h4
  omega

theorem Guess.stop {B y1 y0 u x0 q r : Nat} (h : Guess B y1 y0 u x0 q r) (h1 : 0 < y1) (hB : 0 < B) (h2 : q * y0 ≤ B * r + x0) : q = (u * B + x0) / (y1 * B + y0) :=
  Nat.le_antisymm ((h.le_iff h1 hB).2 h2) h.ge

theorem Guess.go {B y1 y0 u x0 q r : Nat} (h : Guess B y1 y0 u x0 (q + 1) r) (h1 : 0 < y1) (hB : 0 < B) (h2 : B * r + x0 < (q + 1) * y0) (hr : r + y1 < B) :
    Guess B y1 y0 u x0 q (r + y1) := by
  have h3 := h.le_iff h1 hB
  have h4 := h.eq
  rw [Nat.add_mul] at h4
  exact ⟨by omega, by omega, by have := h.q; omega, hr⟩

theorem Guess.brk {B y1 y0 u x0 q r : Nat} (h : Guess B y1 y0 u x0 (q + 1) r) (h1 : 0 < y1) (hB : 0 < B) (hy0 : y0 < B) (h2 : B * r + x0 < (q + 1) * y0) (hr : B ≤ r + y1) :
    q = (u * B + x0) / (y1 * B + y0) := by
  have h3 := h.le_iff h1 hB
  have h4 := h.eq
  rw [Nat.add_mul] at h4
  have h5 := h.q
  have hp : 0 < y1 * B := Nat.mul_pos h1 hB
  refine Nat.le_antisymm ?_ (by omega)
  have h8 : q * y0 ≤ B * (r + y1) + x0 := by
    have e1 : q * y0 ≤ B * B := Nat.mul_le_mul (by omega) (by omega)
    have e2 : B * B ≤ B * (r + y1) := Nat.mul_le_mul_left _ hr
    omega
  rw [Nat.le_div_iff_mul_le (by omega), show u = q * y1 + (r + y1) by omega, Nat.mul_add, Nat.add_mul _ _ B, ← Nat.mul_assoc, Nat.mul_comm (r + y1) B]
  omega

/-- a product against two limbs, by halves -/
theorem halves_le (B P r x0 hi lo : Nat) (h1 : hi = P / B) (h2 : lo = P % B) (hx : x0 < B) : P ≤ B * r + x0 ↔ (hi < r ∨ hi = r ∧ lo ≤ x0) := by
  have e := Nat.div_add_mod P B
  have hl := Nat.mod_lt P (show 0 < B by omega)
  rw [← h1, ← h2] at e
  rw [← h2] at hl
  constructor
  · intro h
    rcases Nat.lt_trichotomy hi r with h3 | h3 | h3
    · exact .inl h3
    · subst h3; exact .inr ⟨rfl, by omega⟩
    · have h4 : B * (r + 1) ≤ B * hi := Nat.mul_le_mul_left _ h3
      rw [Nat.mul_add, Nat.mul_one] at h4
      omega
  · rintro (h | ⟨rfl, h⟩)
    · have h4 : B * (hi + 1) ≤ B * r := Nat.mul_le_mul_left _ h
      rw [Nat.mul_add, Nat.mul_one] at h4
      omega
    · omega

/-! ### a part of a row -/

def seg (zs : List Nat) (o m : Nat) : List Nat := (zs.drop o).take m

theorem seg_length (zs : List Nat) (o m : Nat) (h : o + m ≤ zs.length) : (seg zs o m).length = m := by
  unfold seg; rw [List.length_take, List.length_drop]; omega

theorem take_set_succ (D : List Nat) (i v : Nat) (h : i < D.length) : (D.set i v).take (i + 1) = D.take i ++ [v] := by
  rw [take_snoc _ _ (by rw [List.length_set]; exact h), List.getElem_set_self, List.take_set_of_le (by omega)]

theorem seg_set (us : List Nat) (o i v : Nat) (h : o + i < us.length) : seg (us.set (o + i) v) o (i + 1) = seg us o i ++ [v] := by
  unfold seg
  rw [List.drop_set, if_neg (by omega), show o + i - o = i by omega]
  exact take_set_succ _ _ _ (by rw [List.length_drop]; omega)

theorem seg_succ (zs : List Nat) (o i : Nat) (h : o + i < zs.length) : seg zs o (i + 1) = seg zs o i ++ [zs[o + i]] := by
  unfold seg
  rw [take_snoc _ _ (by rw [List.length_drop]; omega), List.getElem_drop]

theorem drop_set_succ (us : List Nat) (p v : Nat) : (us.set p v).drop (p + 1) = us.drop (p + 1) := by
  rw [List.drop_set, if_pos (by omega)]

theorem getElem_of_drop {us zs : List Nat} {p : Nat} (h : us.drop p = zs.drop p) (h1 : p < us.length) (h2 : p < zs.length) : us[p] = zs[p] := by
  rw [List.drop_eq_getElem_cons h1, List.drop_eq_getElem_cons h2] at h
  exact (List.cons.inj h).1

theorem drop_succ_of_drop {us zs : List Nat} {p : Nat} (h : us.drop p = zs.drop p) : us.drop (p + 1) = zs.drop (p + 1) := by
  rw [← List.drop_drop, ← List.drop_drop, h]

/-- one place of a product taken off -/
theorem takes_step (B P V Yv Xv x v q s hi lo l2 cc ca bo bo' : Nat) (hv : V + q * Yv = Xv + P * (ca + bo)) (hx : x < B) (hqW : q < B) (hvW : v < B) (hca : ca < B) (hbo : bo ≤ 1)
    (h1 : hi = q * v / B) (h2 : lo = q * v % B) (h3 : l2 = (lo + ca + 0) % B) (h4 : cc = (lo + ca + 0) / B) (h5 : s = (x + B - l2 - bo) % B) (h6 : bo' = if x < l2 + bo then 1 else 0) :
    V + P * s + q * (Yv + P * v) = (Xv + P * x) + P * B * (hi + cc + bo') ∧ hi + cc < B := by
  have e1 : lo + B * hi = q * v := by rw [h1, h2]; exact Nat.mod_add_div _ _
  have e2 : l2 + B * cc = lo + ca := by rw [h3, h4]; exact Nat.mod_add_div _ _
  have e3 : s + l2 + bo = x + B * bo' := by
    subst h5 h6
    have : l2 < B := by rw [h3]; exact Nat.mod_lt _ (by omega)
    split
    · rw [Nat.mod_eq_of_lt (by omega)]; omega
    · rw [show x + B - l2 - bo = B + (x - l2 - bo) by omega, Nat.add_mod_left, Nat.mod_eq_of_lt (by omega)]; omega
  have e4 : s + q * v + (ca + bo) = x + B * (hi + cc + bo') := by
    rw [Nat.mul_add, Nat.mul_add]; omega
  have e5 : P * (s + q * v + (ca + bo)) = P * (x + B * (hi + cc + bo')) := by rw [e4]
  rw [Nat.mul_add P (s + q * v) (ca + bo), Nat.mul_add P s (q * v), Nat.mul_add P x _, ← Nat.mul_assoc P B] at e5
  refine ⟨?_, ?_⟩
  · rw [Nat.mul_add q, Nat.mul_left_comm q P v]
    omega
  · have e6 : q * v ≤ (B - 1) * (B - 1) := Nat.mul_le_mul (by omega) (by omega)
    have e7 : (B - 1) * (B - 1) + (B - 1) < B * B := by
      obtain ⟨m, rfl⟩ : ∃ m, B = m + 1 := ⟨B - 1, by omega⟩
      rw [Nat.add_sub_cancel, Nat.mul_add, Nat.add_mul]; omega
    have e8 : B * (hi + cc) < B * B := by rw [Nat.mul_add]; omega
    exact Nat.lt_of_mul_lt_mul_left e8

theorem gives_last (B P V Yv Xv x s ca k : Nat) (hv : V + P * ca = Xv + Yv) (hs : s = (x + ca) % B) (hk : k = (x + ca) / B) : V + P * s + P * B * k = (Xv + P * x) + Yv := by
  have e : s + B * k = x + ca := by rw [hs, hk]; exact Nat.mod_add_div _ _
  have e2 : P * (s + B * k) = P * (x + ca) := by rw [e]
  rw [Nat.mul_add, Nat.mul_add, ← Nat.mul_assoc] at e2
  omega

theorem takes_last (B P V q Yv Xv x s ca bo bo' : Nat) (hv : V + q * Yv = Xv + P * (ca + bo)) (hx : x < B) (hca : ca < B) (hbo : bo ≤ 1)
    (h5 : s = (x + B - ca - bo) % B) (h6 : bo' = if x < ca + bo then 1 else 0) : V + P * s + q * Yv = (Xv + P * x) + P * B * bo' := by
  have e3 : s + ca + bo = x + B * bo' := by
    subst h5 h6
    split
    · rw [Nat.mod_eq_of_lt (by omega)]; omega
    · rw [show x + B - ca - bo = B + (x - ca - bo) by omega, Nat.add_mod_left, Nat.mod_eq_of_lt (by omega)]; omega
  have e5 : P * (s + ca + bo) = P * (x + B * bo') := by rw [e3]
  rw [Nat.mul_add, Nat.mul_add, Nat.mul_add, ← Nat.mul_assoc P B] at e5
  rw [Nat.mul_add] at hv
  omega

end Go.Proofs.Ytaeamlldocbeeaa.Num
