/- baileyref1: Bits, Bit, Power2. -/
import Derived.Test.YtaeamlldocbeeaaRef5
import Derived.Test.YtaeamlldocbeeaaLimb6
import Derived.Test.YtaeamlldocbeeaaNum8
namespace Go.Proofs.Ytaeamlldocbeeaa
open Go.RowKit Num

theorem rbits_any {a1 : Option Addr} {n1 c1 v : Nat} {w : World} (h1 : Sl .u64 w a1 n1 c1 (dig 4294967296 v)) (hn1 : n1 ≤ 1099511627776) :
    Calls Try.prog 25 #[.slice a1 n1 c1] w (RetN .i64 w (bitLen v)) := by
  by_cases h0 : n1 = 0
  · subst h0
    have hv : v = 0 := (dig_eq_nil 4294967296 (by omega) v).1 (List.eq_nil_of_length_eq_zero h1.len)
    have HV := mkHid hv
    clear hv
    go_enter Try.func25, Try.ntmps25
    go_wp2
    go_ret
    exact ⟨ret1 (by rw [HV.out]; rfl), rfl⟩
  · obtain ⟨k, rfl⟩ : ∃ k, n1 = k + 1 := ⟨n1 - 1, by omega⟩
    have hb : (((k + 1 : Nat) : Int) == 0) = false := beq_f (n := 0) h0
    have e1 : ((k + 1 : Nat) : Int) - 1 = (k : Int) := by omega
    have dX := Dg.dig 4294967296 (by omega) v
    have hv : Hid (∀ x, (∃ h : k < (dig 4294967296 v).length, (dig 4294967296 v)[k] = x) → bitLen v = 32 * k + bitLen x) := by
      show ∀ x, _
      rintro x ⟨h, e⟩
      have hl := h1.len
      have h2 := dig_last 4294967296 (by omega) v (by omega)
      have h3 := bitLen_digitsV dX hl (by
        have e4 : (dig 4294967296 v).length - 1 = k := by omega
        simp only [e4] at h2
        exact h2)
      rw [val_dig _ (by omega), e] at h3
      exact h3
    obtain ⟨b1, o1, x, rfl, hcx, hx⟩ := h1.get k (by omega)
    have hxV : x < 4294967296 := by obtain ⟨h, e⟩ := hx.out; rw [← e]; exact dX.at _ h
    have hbl : bitLen x ≤ 32 := (bitLen_le x 32).2 hxV
    have HB := mkHid (hv.out x hx.out)
    clear hv hx dX
    obtain ⟨bl, hbl2⟩ : ∃ bl, bl = bitLen x := ⟨_, rfl⟩
    rw [← hbl2] at hbl HB
    have HBL := mkHid hbl2
    clear hbl2
    go_enter Try.func25, Try.ntmps25
    go_wp2
    go_loop [4, 5] (fun kv tv => ∃ j t : Nat, kv = .int .i64 (j : Int) ∧ tv = .int .u64 (t : Int) ∧ t < 4294967296 ∧ Hid (j + bitLen t = bl) ∧ j ≤ 32) (fun _ tv => (intOf tv).toNat)
    case atStart => exact ⟨0, x, rfl, rfl, hxV, by show _ = _; rw [HBL.out, Nat.zero_add], by omega⟩
    case round =>
      obtain ⟨j, t, rfl, rfl, htV, ht, hj⟩ := hrel
      by_cases g : 0 < t
      · have t1 : decide (0 < t) = true := decide_eq_true g
        obtain ⟨u, hu⟩ : ∃ u, u = t / 2 := ⟨_, rfl⟩
        have e2 : (t : Int) / 2 = (u : Int) := by omega
        have hut : u < t := by omega
        have hju : Hid (j + 1 + bitLen u = bl) := by
          show _ = _
          have := bitLen_half t g
          rw [hu, ← ht.out, this]; omega
        have hj32 : j + 1 ≤ 32 := by have := hju.out; omega
        clear hu
        go_wp2
        go_round
        case rel => exact ⟨j + 1, u, by go_num, rfl, by omega, hju, by omega⟩
        case measure => simp [intOf]; omega
      · obtain rfl : t = 0 := by omega
        have hjb : Hid (j = bl) := by
          show _ = _
          have := ht.out
          rw [bitLen_zero] at this
          exact this
        go_wp2
        go_ret
        refine ⟨ret1 ?_, rfl⟩
        rw [HB.out, ← hjb.out]
        omega

theorem rbit_any {a1 : Option Addr} {n1 c1 v : Nat} {w : World} (h1 : Sl .u64 w a1 n1 c1 (dig 4294967296 v)) (_hn1 : n1 ≤ 1099511627776) (m : Int) (hm63 : m < 9223372036854775808) :
    Calls Try.prog 27 #[.slice a1 n1 c1, .int .i64 m] w (RetN .u64 w (bitAt v m)) := by
  have hd1 := Dg.dig 4294967296 (by omega) v
  have vX := mkHid (val_dig 4294967296 (by omega) v)
  generalize dig 4294967296 v = xs at *
  by_cases g1 : m < 0
  · have t1 : decide (m < 0) = true := decide_eq_true g1
    go_enter Try.func27, Try.ntmps27
    go_wp2
    go_ret
    exact ⟨ret1 (by unfold bitAt; rw [if_neg (by omega)]; rfl), rfl⟩
  · have t1 : decide (m < 0) = false := decide_eq_false g1
    obtain ⟨j, rfl⟩ := Int.eq_ofNat_of_zero_le (show 0 ≤ m by omega)
    obtain ⟨q, hq⟩ : ∃ q, q = j / 32 := ⟨_, rfl⟩
    obtain ⟨k, hk⟩ : ∃ k, k = j % 32 := ⟨_, rfl⟩
    have e1 : ((j : Int) / 32) = (q : Int) := by omega
    have e2 : ((j : Int) % 32) = (k : Int) := by omega
    have hk32 : k < 32 := by omega
    have hq63 : q < 9223372036854775808 := by omega
    have hj : Hid (j = 32 * q + k) := by show _ = _; omega
    clear hq hk
    have hv : Hid (v / 2 ^ j % 2 = xs.getD q 0 / 2 ^ k % 2) := by
      show _ = _
      rw [hj.out, ← vX.out]
      exact bit_digitV hd1 q k hk32
    by_cases hlt : q < n1
    · have t2 : decide (n1 ≤ q) = false := decide_eq_false (by omega)
      obtain ⟨b1, o1, x, rfl, hcx, hx⟩ := h1.get q hlt
      have hxV : x < 4294967296 := by obtain ⟨h, e⟩ := hx.out; rw [← e]; exact hd1.at _ h
      obtain ⟨z, hz⟩ : ∃ z, z = x / 2 ^ k % 2 := ⟨_, rfl⟩
      obtain ⟨y, hy⟩ : ∃ y, y = x / 2 ^ k := ⟨_, rfl⟩
      have e3 : (x : Int) / 2 ^ k = (y : Int) := by rw [hy, Int.natCast_ediv, Int.natCast_pow]; rfl
      have e4 : (y : Int) % 2 = (z : Int) := by rw [hz, ← hy]; omega
      have HZ := mkHid hz
      clear hz hy
      go_enter Try.func27, Try.ntmps27
      go_wp2
      go_ret
      refine ⟨ret1 ?_, rfl⟩
      unfold bitAt; rw [if_pos (by omega), Int.toNat_natCast, hv.out]
      obtain ⟨h, e⟩ := hx.out
      rw [show xs.getD q 0 = x by rw [← e]; simp [List.getD, h], ← HZ.out]
    · have t2 : decide (n1 ≤ q) = true := decide_eq_true (by omega)
      have hl := mkHid h1.len
      go_enter Try.func27, Try.ntmps27
      go_wp2
      go_ret
      refine ⟨ret1 ?_, rfl⟩
      unfold bitAt; rw [if_pos (by omega), Int.toNat_natCast, hv.out]
      simp [List.getD, show xs.length ≤ q by rw [hl.out]; omega]

theorem replicate_set_last (q y : Nat) : (List.replicate (q + 1) 0).set q y = List.replicate q 0 ++ [y] := by
  rw [List.replicate_succ', List.set_append_right _ _ (by simp)]
  simp

theorem dig_two (q k : Nat) (hk : k < 32) : dig 4294967296 (2 ^ (32 * q + k)) = List.replicate q 0 ++ [2 ^ k] := by
  have h2 : 2 ^ k < 4294967296 := Nat.lt_of_lt_of_le (Nat.pow_lt_pow_right (by omega) hk) (Nat.le_refl (2 ^ 32))
  have hd : Dg 4294967296 (List.replicate q 0 ++ [2 ^ k]) := (Dg.replicate (by omega) q).snoc h2
  have hv : val 4294967296 (List.replicate q 0 ++ [2 ^ k]) = 2 ^ (32 * q + k) := by
    rw [val_snoc, val_replicate, List.length_replicate, pow_V, ← Nat.pow_add, Nat.zero_add]
  rw [← hv]
  refine dig_eq_self _ (by omega) hd (.inr ⟨by simp, ?_⟩)
  simp

theorem rpower_any (m : Nat) (hm : m ≤ 1000000) (w : World) :
    Calls Try.prog 24 #[.int .i64 (m : Int)] w (GivesR w (2 ^ m)) := by
  obtain ⟨q, hq⟩ : ∃ q, q = m / 32 := ⟨_, rfl⟩
  obtain ⟨k, hk⟩ : ∃ k, k = m % 32 := ⟨_, rfl⟩
  have e1 : ((m : Int) / 32) = (q : Int) := by omega
  have e2 : ((m : Int) % 32) = (k : Int) := by omega
  have hk32 : k < 32 := by omega
  have hq6 : q ≤ 1000000 := by omega
  have hj : Hid (m = 32 * q + k) := by show _ = _; omega
  clear hq hk
  obtain ⟨y, hy⟩ : ∃ y, y = 2 ^ k := ⟨_, rfl⟩
  have hyW : y < 18446744073709551616 := by
    rw [hy]
    exact Nat.lt_of_lt_of_le (Nat.pow_lt_pow_right (by omega) hk32) (by decide)
  have e3 : IntKind.u64.wrap ((2 : Int) ^ k) = (y : Int) := by
    rw [IntKind.wrap_u64, ← show ((2 ^ k : Nat) : Int) = (2 : Int) ^ k by rw [Int.natCast_pow]; rfl, ← hy]
    omega
  have HY := mkHid hy
  clear hy
  go_enter Try.func24, Try.ntmps24
  go_wp2_with (first
    | (at_make; refine wpList_mk rfl _ _ _ rfl 54 .u64 8 under_ref info_u64 (q + 1) rfl rfl (by omega) (by omega) (by omega) (by omega) ?_; intro b w2 hB hblk hbel; obtain ⟨z0, hcb, hfb, _⟩ := hblk.get q (by rw [List.length_replicate]; omega)))
  go_ret
  have hb2 := hblk.set q y
  rw [replicate_set_last] at hb2
  refine ⟨_, _, _, rfl, ?_, hbel.setCell hB _⟩
  rw [hj.out, dig_two q k hk32, ← HY.out]
  exact hb2.sl (q + 1) (by simp) (by omega)

end Go.Proofs.Ytaeamlldocbeeaa
