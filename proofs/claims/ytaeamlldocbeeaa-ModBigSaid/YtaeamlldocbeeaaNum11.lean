/- Sixteen numbers that pass the test for the first twelve primes, and of which 1 less has few prime factors: plain arithmetic. -/
import Derived.Test.YtaeamlldocbeeaaMod7
import Derived.Test.YtaeamlldocbeeaaMod9
namespace Go.Proofs.Ytaeamlldocbeeaa
open Num

/-- a power modulo n, fast -/
def pmF : Nat → Nat → Nat → Nat → Nat
  | 0, _, _, n => 1 % n
  | f + 1, a, e, n => if e = 0 then 1 % n else if e % 2 = 1 then a * pmF f (a * a % n) (e / 2) n % n else pmF f (a * a % n) (e / 2) n

theorem pmF_eq (n : Nat) : ∀ f a e, e < 2 ^ f → pmF f a e n = a ^ e % n := by
  intro f
  induction f with
  | zero =>
    intro a e h
    obtain rfl : e = 0 := by rw [Nat.pow_zero] at h; omega
    rfl
  | succ f ih =>
    intro a e h
    unfold pmF
    by_cases h0 : e = 0
    · rw [if_pos h0, h0]; rfl
    · rw [if_neg h0, ih _ _ (by rw [Nat.pow_succ] at h; omega)]
      have key : (a * a % n) ^ (e / 2) % n = a ^ (2 * (e / 2)) % n := by
        rw [← Nat.pow_mod, Nat.pow_mul, Nat.pow_two]
      by_cases h1 : e % 2 = 1
      · rw [if_pos h1, key, Nat.mul_mod, Nat.mod_mod, ← Nat.mul_mod, ← Nat.pow_succ']
        congr 2; omega
      · rw [if_neg h1, key]
        congr 2; omega

theorem tz_unique (s d : Nat) (hd : d % 2 = 1) : tz (2 ^ s * d) = s := by
  have hp : 0 < 2 ^ s * d := Nat.mul_pos (Nat.two_pow_pos s) (by omega)
  obtain ⟨h1, h2⟩ := tz_spec _ hp
  rcases Nat.lt_trichotomy (tz (2 ^ s * d)) s with h | h | h
  · exfalso
    have := low_bits (2 ^ s * d) s (tz (2 ^ s * d)) (Nat.mul_mod_right _ _) h
    omega
  · exact h
  · exfalso
    have := low_bits (2 ^ s * d) (tz (2 ^ s * d)) s h1 h
    rw [Nat.mul_div_cancel_left _ (Nat.two_pow_pos s)] at this
    omega

/-- the test of Miller and Rabin, fast; N = 2^s d + 1 -/
def strongF (N W s d : Nat) : Bool := if W % N = 0 then true else decide (pmF 256 (W % N) d N = 1) || sLoop N (N - 1) s (pmF 256 (W % N) d N)

theorem strongF_eq (N W s d : Nat) (h3 : 3 ≤ N) (hd : d % 2 = 1) (hs : 1 ≤ s) (hN : N - 1 = 2 ^ s * d) (hm : mayB [N] = true) (hd2 : d < 2 ^ 256) : strongB N W = strongF N W s d := by
  have ho : ¬ (N % 2 = 0 ∨ N < 2) := by
    obtain ⟨t, rfl⟩ : ∃ t, s = t + 1 := ⟨s - 1, by omega⟩
    rw [Nat.pow_succ, Nat.mul_assoc, Nat.mul_comm, Nat.mul_assoc] at hN
    omega
  unfold strongB strongF
  rw [if_neg ho, if_pos hm, hN, tz_unique s d hd, Nat.mul_div_cancel_left _ (Nat.two_pow_pos s), pmF_eq _ _ _ _ hd2, ← hN]

def certF (N s d : Nat) : Bool := fewL.all fun w => strongF N w s d

/-- a number at which the search for a prime ends at last -/
structure Good (e G : Nat) : Prop where
  odd : G % 2 = 1
  lo : 2 ^ 128 ≤ G
  hi : G < 2 ^ 133
  parted : partedB G = false
  prob : probB G = true
  gcd : Nat.gcd (G - 1) e = 1

theorem bl_small (N k : Nat) (hk : 133 ≤ k) (h : N < 2 ^ 133) : bitLen N ≤ k := (bitLen_le N k).2 (Nat.lt_of_lt_of_le h (Nat.pow_le_pow_right (by omega) hk))

theorem good_of (e a b q : Nat) (he : e % 2 = 1) (hq : Nat.gcd q e = 1) (h1 : (2 ^ a * q ^ b + 1) % 2 = 1) (h2 : 2 ^ 128 ≤ 2 ^ a * q ^ b + 1) (h3 : 2 ^ a * q ^ b + 1 < 2 ^ 133)
    (h4 : partedB (2 ^ a * q ^ b + 1) = false) (h5 : certF (2 ^ a * q ^ b + 1) a (q ^ b) = true) (h6 : q ^ b % 2 = 1) (h7 : 1 ≤ a) : Good e (2 ^ a * q ^ b + 1) := by
  have hbig : mayB [2 ^ a * q ^ b + 1] = true := by
    simp only [mayB, List.all_cons, List.all_nil, Bool.and_true]
    exact decide_eq_true (bl_small _ _ (by omega) h3)
  have h128 : (2 : Nat) ^ 128 = 340282366920938463463374607431768211456 := by decide
  have hd : q ^ b < 2 ^ 256 := by
    have e1 : q ^ b ≤ 2 ^ a * q ^ b := Nat.le_mul_of_pos_left _ (Nat.two_pow_pos a)
    have e2 : (2 : Nat) ^ 133 ≤ 2 ^ 256 := Nat.pow_le_pow_right (by omega) (by omega)
    omega
  refine ⟨h1, h2, h3, h4, ?_, ?_⟩
  · unfold probB
    rw [if_neg (by omega), hbig, Bool.true_and, List.all_eq_true]
    intro w hw
    rw [strongF_eq _ w a (q ^ b) (by omega) h6 h7 (by omega) hbig hd]
    exact (List.all_eq_true.1 h5) w hw
  · rw [Nat.add_sub_cancel]
    have c2 : Nat.Coprime 2 e := by
      show Nat.gcd 2 e = 1
      rw [Nat.gcd_rec, he]; rfl
    exact Nat.Coprime.mul_left (Nat.Coprime.pow_left a c2) (Nat.Coprime.pow_left b hq)

theorem cop_of (q e : Nat) (hp : ∀ g, g ≤ q → q % g = 0 → g = 1 ∨ g = q) (hq : 0 < q) (h : ¬ e % q = 0) : Nat.gcd q e = 1 := by
  have h1 := Nat.gcd_dvd_left q e
  rcases hp _ (Nat.le_of_dvd hq h1) (Nat.mod_eq_zero_of_dvd h1) with h2 | h2
  · exact h2
  · exfalso
    have := Nat.gcd_dvd_right q e
    rw [h2] at this
    exact h (Nat.mod_eq_zero_of_dvd this)

theorem good3 (e : Nat) (he : e % 2 = 1) (h : ¬ e % 3 = 0) : Good e (2 ^ 8 * 3 ^ 76 + 1) :=
  good_of e 8 76 3 he (cop_of 3 e (by decide) (by omega) h) (by decide +kernel) (by decide +kernel) (by decide +kernel) (by decide +kernel) (by decide +kernel) (by decide +kernel) (by omega)

theorem good5 (e : Nat) (he : e % 2 = 1) (h : ¬ e % 5 = 0) : Good e (2 ^ 127 * 5 ^ 1 + 1) :=
  good_of e 127 1 5 he (cop_of 5 e (by decide) (by omega) h) (by decide +kernel) (by decide +kernel) (by decide +kernel) (by decide +kernel) (by decide +kernel) (by decide +kernel) (by omega)

theorem good7 (e : Nat) (he : e % 2 = 1) (h : ¬ e % 7 = 0) : Good e (2 ^ 84 * 7 ^ 17 + 1) :=
  good_of e 84 17 7 he (cop_of 7 e (by decide) (by omega) h) (by decide +kernel) (by decide +kernel) (by decide +kernel) (by decide +kernel) (by decide +kernel) (by decide +kernel) (by omega)

theorem good11 (e : Nat) (he : e % 2 = 1) (h : ¬ e % 11 = 0) : Good e (2 ^ 125 * 11 ^ 1 + 1) :=
  good_of e 125 1 11 he (cop_of 11 e (by decide) (by omega) h) (by decide +kernel) (by decide +kernel) (by decide +kernel) (by decide +kernel) (by decide +kernel) (by decide +kernel) (by omega)

theorem good13 (e : Nat) (he : e % 2 = 1) (h : ¬ e % 13 = 0) : Good e (2 ^ 112 * 13 ^ 5 + 1) :=
  good_of e 112 5 13 he (cop_of 13 e (by decide) (by omega) h) (by decide +kernel) (by decide +kernel) (by decide +kernel) (by decide +kernel) (by decide +kernel) (by decide +kernel) (by omega)

theorem good17 (e : Nat) (he : e % 2 = 1) (h : ¬ e % 17 = 0) : Good e (2 ^ 96 * 17 ^ 8 + 1) :=
  good_of e 96 8 17 he (cop_of 17 e (by decide) (by omega) h) (by decide +kernel) (by decide +kernel) (by decide +kernel) (by decide +kernel) (by decide +kernel) (by decide +kernel) (by omega)

theorem good19 (e : Nat) (he : e % 2 = 1) (h : ¬ e % 19 = 0) : Good e (2 ^ 22 * 19 ^ 25 + 1) :=
  good_of e 22 25 19 he (cop_of 19 e (by decide) (by omega) h) (by decide +kernel) (by decide +kernel) (by decide +kernel) (by decide +kernel) (by decide +kernel) (by decide +kernel) (by omega)

theorem good23 (e : Nat) (he : e % 2 = 1) (h : ¬ e % 23 = 0) : Good e (2 ^ 50 * 23 ^ 18 + 1) :=
  good_of e 50 18 23 he (cop_of 23 e (by decide) (by omega) h) (by decide +kernel) (by decide +kernel) (by decide +kernel) (by decide +kernel) (by decide +kernel) (by decide +kernel) (by omega)

theorem good29 (e : Nat) (he : e % 2 = 1) (h : ¬ e % 29 = 0) : Good e (2 ^ 7 * 29 ^ 25 + 1) :=
  good_of e 7 25 29 he (cop_of 29 e (by decide) (by omega) h) (by decide +kernel) (by decide +kernel) (by decide +kernel) (by decide +kernel) (by decide +kernel) (by decide +kernel) (by omega)

theorem good31 (e : Nat) (he : e % 2 = 1) (h : ¬ e % 31 = 0) : Good e (2 ^ 92 * 31 ^ 8 + 1) :=
  good_of e 92 8 31 he (cop_of 31 e (by decide) (by omega) h) (by decide +kernel) (by decide +kernel) (by decide +kernel) (by decide +kernel) (by decide +kernel) (by decide +kernel) (by omega)

theorem good37 (e : Nat) (he : e % 2 = 1) (h : ¬ e % 37 = 0) : Good e (2 ^ 108 * 37 ^ 4 + 1) :=
  good_of e 108 4 37 he (cop_of 37 e (by decide) (by omega) h) (by decide +kernel) (by decide +kernel) (by decide +kernel) (by decide +kernel) (by decide +kernel) (by decide +kernel) (by omega)

theorem good41 (e : Nat) (he : e % 2 = 1) (h : ¬ e % 41 = 0) : Good e (2 ^ 76 * 41 ^ 10 + 1) :=
  good_of e 76 10 41 he (cop_of 41 e (by decide) (by omega) h) (by decide +kernel) (by decide +kernel) (by decide +kernel) (by decide +kernel) (by decide +kernel) (by decide +kernel) (by omega)

theorem good43 (e : Nat) (he : e % 2 = 1) (h : ¬ e % 43 = 0) : Good e (2 ^ 74 * 43 ^ 10 + 1) :=
  good_of e 74 10 43 he (cop_of 43 e (by decide) (by omega) h) (by decide +kernel) (by decide +kernel) (by decide +kernel) (by decide +kernel) (by decide +kernel) (by decide +kernel) (by omega)

theorem good47 (e : Nat) (he : e % 2 = 1) (h : ¬ e % 47 = 0) : Good e (2 ^ 64 * 47 ^ 12 + 1) :=
  good_of e 64 12 47 he (cop_of 47 e (by decide) (by omega) h) (by decide +kernel) (by decide +kernel) (by decide +kernel) (by decide +kernel) (by decide +kernel) (by decide +kernel) (by omega)

theorem good53 (e : Nat) (he : e % 2 = 1) (h : ¬ e % 53 = 0) : Good e (2 ^ 77 * 53 ^ 9 + 1) :=
  good_of e 77 9 53 he (cop_of 53 e (by decide) (by omega) h) (by decide +kernel) (by decide +kernel) (by decide +kernel) (by decide +kernel) (by decide +kernel) (by decide +kernel) (by omega)

theorem good59 (e : Nat) (he : e % 2 = 1) (h : ¬ e % 59 = 0) : Good e (2 ^ 12 * 59 ^ 20 + 1) :=
  good_of e 12 20 59 he (cop_of 59 e (by decide) (by omega) h) (by decide +kernel) (by decide +kernel) (by decide +kernel) (by decide +kernel) (by decide +kernel) (by decide +kernel) (by omega)

theorem mul_mod_zero (p q e : Nat) (hc : Nat.Coprime p q) (h1 : e % p = 0) (h2 : e % q = 0) : e % (p * q) = 0 :=
  Nat.mod_eq_zero_of_dvd (Nat.Coprime.mul_dvd_of_dvd_of_dvd hc (Nat.dvd_of_mod_eq_zero h1) (Nat.dvd_of_mod_eq_zero h2))

theorem good_any (e : Nat) (he : e % 2 = 1) (hlt : e < 18446744073709551616) : ∃ G, Good e G := by
  by_cases h3 : e % 3 = 0
  case neg => exact ⟨_, good3 e he h3⟩
  by_cases h5 : e % 5 = 0
  case neg => exact ⟨_, good5 e he h5⟩
  by_cases h7 : e % 7 = 0
  case neg => exact ⟨_, good7 e he h7⟩
  by_cases h11 : e % 11 = 0
  case neg => exact ⟨_, good11 e he h11⟩
  by_cases h13 : e % 13 = 0
  case neg => exact ⟨_, good13 e he h13⟩
  by_cases h17 : e % 17 = 0
  case neg => exact ⟨_, good17 e he h17⟩
  by_cases h19 : e % 19 = 0
  case neg => exact ⟨_, good19 e he h19⟩
  by_cases h23 : e % 23 = 0
  case neg => exact ⟨_, good23 e he h23⟩
  by_cases h29 : e % 29 = 0
  case neg => exact ⟨_, good29 e he h29⟩
  by_cases h31 : e % 31 = 0
  case neg => exact ⟨_, good31 e he h31⟩
  by_cases h37 : e % 37 = 0
  case neg => exact ⟨_, good37 e he h37⟩
  by_cases h41 : e % 41 = 0
  case neg => exact ⟨_, good41 e he h41⟩
  by_cases h43 : e % 43 = 0
  case neg => exact ⟨_, good43 e he h43⟩
  by_cases h47 : e % 47 = 0
  case neg => exact ⟨_, good47 e he h47⟩
  by_cases h53 : e % 53 = 0
  case neg => exact ⟨_, good53 e he h53⟩
  by_cases h59 : e % 59 = 0
  case neg => exact ⟨_, good59 e he h59⟩
  have p0 := h3
  have p1 := mul_mod_zero 3 5 e (by decide +kernel) p0 h5
  simp only [Nat.reduceMul] at p1
  have p2 := mul_mod_zero 15 7 e (by decide +kernel) p1 h7
  simp only [Nat.reduceMul] at p2
  have p3 := mul_mod_zero 105 11 e (by decide +kernel) p2 h11
  simp only [Nat.reduceMul] at p3
  have p4 := mul_mod_zero 1155 13 e (by decide +kernel) p3 h13
  simp only [Nat.reduceMul] at p4
  have p5 := mul_mod_zero 15015 17 e (by decide +kernel) p4 h17
  simp only [Nat.reduceMul] at p5
  have p6 := mul_mod_zero 255255 19 e (by decide +kernel) p5 h19
  simp only [Nat.reduceMul] at p6
  have p7 := mul_mod_zero 4849845 23 e (by decide +kernel) p6 h23
  simp only [Nat.reduceMul] at p7
  have p8 := mul_mod_zero 111546435 29 e (by decide +kernel) p7 h29
  simp only [Nat.reduceMul] at p8
  have p9 := mul_mod_zero 3234846615 31 e (by decide +kernel) p8 h31
  simp only [Nat.reduceMul] at p9
  have p10 := mul_mod_zero 100280245065 37 e (by decide +kernel) p9 h37
  simp only [Nat.reduceMul] at p10
  have p11 := mul_mod_zero 3710369067405 41 e (by decide +kernel) p10 h41
  simp only [Nat.reduceMul] at p11
  have p12 := mul_mod_zero 152125131763605 43 e (by decide +kernel) p11 h43
  simp only [Nat.reduceMul] at p12
  have p13 := mul_mod_zero 6541380665835015 47 e (by decide +kernel) p12 h47
  simp only [Nat.reduceMul] at p13
  have p14 := mul_mod_zero 307444891294245705 53 e (by decide +kernel) p13 h53
  simp only [Nat.reduceMul] at p14
  have p15 := mul_mod_zero 16294579238595022365 59 e (by decide +kernel) p14 h59
  simp only [Nat.reduceMul] at p15
  exfalso
  rw [Nat.mod_eq_of_lt (Nat.lt_of_lt_of_le hlt (by decide))] at p15
  rw [p15] at he
  exact absurd he (by decide)

end Go.Proofs.Ytaeamlldocbeeaa
