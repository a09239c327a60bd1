/- limb: Bits, Bit. -/
import Derived.Test.YtaeamlldocbeeaaLimb5
import Derived.Test.YtaeamlldocbeeaaNum3
namespace Go.Proofs.Ytaeamlldocbeeaa
open Go.RowKit Num

theorem bits_any {a1 : Option Addr} {n1 c1 : Nat} {xs : List Nat} {w : World} (h1 : Sl .u64 w a1 n1 c1 xs) (hd1 : Dg 18446744073709551616 xs) (hn1 : n1 ≤ 1099511627776) :
    Calls Try.prog 28 #[.slice a1 n1 c1] w (RetN .i64 w (bitLen (val 18446744073709551616 xs))) := by
  go_enter Try.func28, Try.ntmps28
  go_upto_if 7 with (first
    | (go_at_call 59; (with_reducible refine (trim_sl h1 hd1).mono ?_); rintro e w' ⟨k1, rfl, hm1, hX, rfl⟩))
  by_cases h0 : k1 = 0
  · subst h0
    have hv : Hid (val 18446744073709551616 xs = 0) := by
      have := hX.len
      have := (dig_length_le 18446744073709551616 (by omega) 0 (val 18446744073709551616 xs)).1 (by omega)
      show _ = _
      rw [Nat.pow_zero] at this
      omega
    go_wp2
    go_ret
    exact ⟨ret1 (by rw [hv.out]; rfl), rfl⟩
  · obtain ⟨k, rfl⟩ : ∃ k, k1 = k + 1 := ⟨k1 - 1, by omega⟩
    have hb : (((k + 1 : Nat) : Int) == 0) = false := beq_f (n := 0) h0
    have e1 : ((k + 1 : Nat) : Int) - 1 = (k : Int) := by omega
    obtain ⟨b1, o1, x, rfl, hcx, hx⟩ := hX.get k (by omega)
    have dX := Dg.dig 18446744073709551616 (by omega) (val 18446744073709551616 xs)
    have hxW : x < 18446744073709551616 := by obtain ⟨h, e⟩ := hx.out; rw [← e]; exact dX.at _ h
    have hv : Hid (bitLen (val 18446744073709551616 xs) = 64 * k + bitLen x) := by
      show _ = _
      obtain ⟨h, e⟩ := hx.out
      have hl := hX.len
      have h2 := dig_last 18446744073709551616 (by omega) (val 18446744073709551616 xs) (by omega)
      have h3 := bitLen_digits dX hl (by
        have e4 : (dig 18446744073709551616 (val 18446744073709551616 xs)).length - 1 = k := by omega
        simp only [e4] at h2
        exact h2)
      rw [val_dig _ (by omega), e] at h3
      exact h3
    have hl64 := bitLen_le64 x hxW
    go_wp2_with (go_at_call 72; refine (len64_any x hxW _).mono ?_; rintro e w' ⟨rfl, rfl⟩)
    go_ret
    refine ⟨ret1 ?_, rfl⟩
    rw [hv.out]
    omega

/-- a bit at any place -/
def bitAt (v : Nat) (m : Int) : Nat := if 0 ≤ m then v / 2 ^ m.toNat % 2 else 0

theorem bit_any {a1 : Option Addr} {n1 c1 : Nat} {xs : List Nat} {w : World} (h1 : Sl .u64 w a1 n1 c1 xs) (hd1 : Dg 18446744073709551616 xs) (_hn1 : n1 ≤ 1099511627776) (m : Int) (hm63 : m < 9223372036854775808) :
    Calls Try.prog 29 #[.slice a1 n1 c1, .int .i64 m] w (RetN .u64 w (bitAt (val 18446744073709551616 xs) m)) := by
  by_cases g1 : m < 0
  · have t1 : decide (m < 0) = true := decide_eq_true g1
    go_enter Try.func29, Try.ntmps29
    go_wp2
    go_ret
    exact ⟨ret1 (by unfold bitAt; rw [if_neg (by omega)]; rfl), rfl⟩
  · have t1 : decide (m < 0) = false := decide_eq_false g1
    obtain ⟨j, rfl⟩ := Int.eq_ofNat_of_zero_le (show 0 ≤ m by omega)
    obtain ⟨q, hq⟩ : ∃ q, q = j / 64 := ⟨_, rfl⟩
    obtain ⟨k, hk⟩ : ∃ k, k = j % 64 := ⟨_, rfl⟩
    have e1 : ((j : Int) / 64) = (q : Int) := by omega
    have e2 : ((j : Int) % 64) = (k : Int) := by omega
    have hk64 : k < 64 := by omega
    have hq63 : q < 9223372036854775808 := by omega
    have hj : Hid (j = 64 * q + k) := by show _ = _; omega
    clear hq hk
    have hv : Hid (val 18446744073709551616 xs / 2 ^ j % 2 = xs.getD q 0 / 2 ^ k % 2) := by
      show _ = _
      rw [hj.out]
      exact bit_digit hd1 q k hk64
    by_cases hlt : q < n1
    · have t2 : decide (n1 ≤ q) = false := decide_eq_false (by omega)
      obtain ⟨b1, o1, x, rfl, hcx, hx⟩ := h1.get q hlt
      have hxW : x < 18446744073709551616 := by obtain ⟨h, e⟩ := hx.out; rw [← e]; exact hd1.at _ h
      have hs : bits .and .u64 ((x : Int) / 2 ^ k) 1 = ((x / 2 ^ k % 2 : Nat) : Int) := by
        have e : (x : Int) / 2 ^ k = ((x / 2 ^ k : Nat) : Int) := by rw [Int.natCast_ediv, Int.natCast_pow]; rfl
        have hl : x / 2 ^ k < 18446744073709551616 := Nat.lt_of_le_of_lt (Nat.div_le_self _ _) hxW
        have := bits_and_u64_nat (x / 2 ^ k) 1 hl (by omega)
        rw [Nat.and_one_is_mod] at this
        rw [e]
        exact this
      obtain ⟨z, hz⟩ : ∃ z, z = x / 2 ^ k % 2 := ⟨_, rfl⟩
      rw [← hz] at hs
      have HZ := mkHid hz
      clear hz
      go_enter Try.func29, Try.ntmps29
      go_wp2
      go_ret
      refine ⟨ret1 ?_, rfl⟩
      unfold bitAt; rw [if_pos (by omega), Int.toNat_natCast, hv.out, HZ.out]
      obtain ⟨h, e⟩ := hx.out
      rw [← e]
      simp [List.getD, h]
    · have t2 : decide (n1 ≤ q) = true := decide_eq_true (by omega)
      have hl := mkHid h1.len
      go_enter Try.func29, Try.ntmps29
      go_wp2
      go_ret
      refine ⟨ret1 ?_, rfl⟩
      unfold bitAt; rw [if_pos (by omega), Int.toNat_natCast, hv.out]
      simp [List.getD, show xs.length ≤ q by rw [hl.out]; omega]

end Go.Proofs.Ytaeamlldocbeeaa
