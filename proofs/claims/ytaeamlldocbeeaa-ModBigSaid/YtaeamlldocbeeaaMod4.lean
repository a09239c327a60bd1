/- modarith: candidate, Strong. -/
import Derived.Test.YtaeamlldocbeeaaModA
namespace Go.Proofs.Ytaeamlldocbeeaa
open Go.RowKit Num

/-- how often 2 divides a number -/
def tzF : Nat → Nat → Nat
  | 0, _ => 0
  | f + 1, n => if n % 2 = 0 then tzF f (n / 2) + 1 else 0

def tz (n : Nat) : Nat := tzF n n

theorem tzF_spec : ∀ f n, 0 < n → n ≤ f → n % 2 ^ tzF f n = 0 ∧ n / 2 ^ tzF f n % 2 = 1 := by
  intro f
  induction f with
  | zero => intro n h1 h2; omega
  | succ f ih =>
    intro n h1 h2
    unfold tzF
    by_cases h : n % 2 = 0
    · rw [if_pos h]
      obtain ⟨e1, e2⟩ := ih (n / 2) (by omega) (by omega)
      rw [Nat.pow_succ, Nat.mul_comm, ← Nat.div_div_eq_div_mul]
      refine ⟨?_, e2⟩
      rw [Nat.mod_mul, h, e1]
    · rw [if_neg h, Nat.pow_zero, Nat.div_one, Nat.mod_one]
      omega

theorem tz_spec (n : Nat) (h : 0 < n) : n % 2 ^ tz n = 0 ∧ n / 2 ^ tz n % 2 = 1 := tzF_spec n n h (Nat.le_refl _)

theorem low_bits (n s j : Nat) (h : n % 2 ^ s = 0) (hj : j < s) : n / 2 ^ j % 2 = 0 := by
  obtain ⟨q, hq⟩ := Nat.dvd_of_mod_eq_zero h
  obtain ⟨t, rfl⟩ : ∃ t, s = j + (t + 1) := ⟨s - j - 1, by omega⟩
  rw [hq, Nat.pow_add, Nat.mul_assoc, Nat.mul_div_cancel_left _ (Nat.two_pow_pos j), Nat.pow_succ, Nat.mul_assoc, Nat.mul_comm (2 ^ t), Nat.mul_assoc]
  omega

theorem tz_le (n k : Nat) (h : 0 < n) (hk : n < 2 ^ k) : tz n < k := by
  have h1 := (tz_spec n h).1
  apply Decidable.byContradiction
  intro hc
  have h2 : 2 ^ k ≤ 2 ^ tz n := Nat.pow_le_pow_right (by omega) (by omega)
  rw [Nat.mod_eq_of_lt (by omega)] at h1
  omega

theorem tz_even (n : Nat) (h : 0 < n) (he : n % 2 = 0) : 1 ≤ tz n := by
  apply Decidable.byContradiction
  intro hc
  have h0 : tz n = 0 := by omega
  have := (tz_spec n h).2
  rw [h0, Nat.pow_zero, Nat.div_one] at this
  omega

/-- the squares of the test of Miller and Rabin: is one of the next s the number less? -/
def sLoop (N less : Nat) : Nat → Nat → Bool
  | 0, _ => false
  | s + 1, x => decide (x = less) || sLoop N less s (x * x % N)

/-- the test of Miller and Rabin -/
def strongB (N W : Nat) : Bool :=
  if N % 2 = 0 ∨ N < 2 then decide (N = 2)
  else if mayB [N] = true then
    (if W % N = 0 then true else decide ((W % N) ^ ((N - 1) / 2 ^ tz (N - 1)) % N = 1) || sLoop N (N - 1) (tz (N - 1)) ((W % N) ^ ((N - 1) / 2 ^ tz (N - 1)) % N))
  else false

/-- two bools are the results -/
def GivesBB (w : World) (b c : Bool) (e : Ending) (w' : World) : Prop := e = .returned (.tuple #[.bool b, .bool c]) ∧ Below w.heap.size w w'

theorem bit0 (v : Nat) : bitAt v 0 = v % 2 := by
  have := bitAt_nat v 0
  rw [Nat.pow_zero, Nat.div_one] at this
  exact this

theorem cmpI_eq0 (u v : Nat) : (cmpI u v == 0) = decide (u = v) := by
  rw [Bool.eq_iff_iff, beq_iff_eq, cmpI_iff0, decide_eq_true_iff]

section
variable {w : World} {a1 a2 a3 : Option Addr} {n1 c1 n2 c2 n3 c3 m k l u v x : Nat}

theorem cand_no (h : Nm w a1 n1 c1 m u) (hu : u % 2 = 0 ∨ u < 2) : Calls Try.prog 80 #[.slice a1 n1 c1] w (GivesBB w false (decide (u = 2))) := by
  obtain ⟨B, hB⟩ : ∃ B, B = bitLen u := ⟨_, rfl⟩
  obtain ⟨t, ht⟩ : ∃ t, t = u % 2 := ⟨_, rfl⟩
  have hbits := bits_nm h
  have hbit := bit_nm h 0 (by omega)
  have hb2 := @bl_lt2 u
  rw [← hB] at hbits hb2
  rw [bit0, ← ht] at hbit
  rw [← ht] at hu
  have HBT := mkHid hbits
  have HBI := mkHid hbit
  have hce := mkHid (cmpI_eq0 u 2)
  generalize decide (u = 2) = R at hce ⊢
  have hu2 : t = 0 ∨ (t ≠ 0 ∧ B < 2) := by
    rcases hu with h1 | h1
    · exact .inl h1
    · by_cases h0 : t = 0
      · exact .inl h0
      · exact .inr ⟨h0, hb2.2 h1⟩
  clear hbits hbit hu hb2 hB ht
  rcases hu2 with h0 | ⟨h0, h2⟩
  · have t1 : ((t : Int) == 0) = true := beq_t (n := 0) h0
    clear h0
    go_enter Try.func80, Try.ntmps80
    go_wp2_with (first
      | (go_at_call 29; (with_reducible refine HBI.out.mono ?_); rintro e w' ⟨rfl, rfl⟩)
      | (go_at_call 62; (with_reducible refine (of_nm2 2 (by omega) (by omega) _).mono ?_); rintro e w1 ⟨a4, n4, c4, rfl, hT, hb1⟩; have h1 := h.keep hb1)
      | (go_at_call 36; (with_reducible refine (cmp_nm h1 hT.nm).mono ?_); rintro e w2 ⟨rfl, hb2⟩))
    go_ret2
    exact ⟨by rw [← hce.out]; rfl, hb1.trans (hb2.mono hb1.size)⟩
  · have t1 : ((t : Int) == 0) = false := beq_f (n := 0) h0
    have t2 : decide ((B : Int) < 2) = true := decide_eq_true (by omega)
    clear h0 h2
    go_enter Try.func80, Try.ntmps80
    go_wp2_with (first
      | (go_at_call 29; (with_reducible refine HBI.out.mono ?_); rintro e w' ⟨rfl, rfl⟩)
      | (go_at_call 28; (with_reducible refine HBT.out.mono ?_); rintro e w' ⟨rfl, rfl⟩)
      | (go_at_call 62; (with_reducible refine (of_nm2 2 (by omega) (by omega) _).mono ?_); rintro e w1 ⟨a4, n4, c4, rfl, hT, hb1⟩; have h1 := h.keep hb1)
      | (go_at_call 36; (with_reducible refine (cmp_nm h1 hT.nm).mono ?_); rintro e w2 ⟨rfl, hb2⟩))
    go_ret2
    exact ⟨by rw [← hce.out]; rfl, hb1.trans (hb2.mono hb1.size)⟩

theorem cand_yes (h : Nm w a1 n1 c1 m u) (hu : ¬ (u % 2 = 0 ∨ u < 2)) : Calls Try.prog 80 #[.slice a1 n1 c1] w (GivesBB w (mayB [u]) false) := by
  obtain ⟨B, hB⟩ : ∃ B, B = bitLen u := ⟨_, rfl⟩
  obtain ⟨t, ht⟩ : ∃ t, t = u % 2 := ⟨_, rfl⟩
  have hbits := bits_nm h
  have hbit := bit_nm h 0 (by omega)
  have hb2 := @bl_lt2 u
  have hmay := may1 h
  rw [← hB] at hbits hb2
  rw [bit0, ← ht] at hbit
  rw [← ht] at hu
  have HBT := mkHid hbits
  have HBI := mkHid hbit
  have HMY := mkHid hmay
  generalize mayB [u] = R at *
  have h0 : t ≠ 0 := fun h => hu (.inl h)
  have h2 : ¬ B < 2 := fun h => hu (.inr (hb2.1 h))
  have t1 : ((t : Int) == 0) = false := beq_f (n := 0) h0
  have t2 : decide ((B : Int) < 2) = false := decide_eq_false (by omega)
  clear hbits hbit hu hb2 hB ht h0 h2 hmay
  go_enter Try.func80, Try.ntmps80
  go_wp2_with (first
    | (go_at_call 29; (with_reducible refine HBI.out.mono ?_); rintro e w' ⟨rfl, rfl⟩)
    | (go_at_call 28; (with_reducible refine HBT.out.mono ?_); rintro e w' ⟨rfl, rfl⟩)
    | (go_at_call 79; (with_reducible refine HMY.out.mono ?_); rintro e w1 ⟨rfl, hb1⟩))
  go_ret2
  exact ⟨rfl, hb1⟩

end

end Go.Proofs.Ytaeamlldocbeeaa
