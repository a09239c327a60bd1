/- RefC: Ref6, Ref7. -/
import Derived.Test.YtaeamlldocbeeaaRefB
import Derived.Test.YtaeamlldocbeeaaLimbB
import Derived.Test.YtaeamlldocbeeaaNumA

/- baileyref1: Bits, Bit, Power2. -/

namespace Go.Proofs.Ytaeamlldocbeeaa
open Go.RowKit Num

theorem rbits_any {a1 : Option Addr} {n1 c1 v : Nat} {w : World} (h1 : Sl .u64 w a1 n1 c1 (dig 4294967296 v)) (hn1 : n1 ≤ 1099511627776) :
    Calls Try.prog 25 #[.slice a1 n1 c1] w (RetN .i64 w (bitLen v)) := by
  by_cases h0 : n1 = 0
  · subst h0
    have hv : v = 0 := (dig_eq_nil 4294967296 (by omega) v).1 (List.eq_nil_of_length_eq_zero h1.len)
    have HV := mkHid hv
    clear hv
    go_enter Try.func25, Try.ntmps25
    go_wp2
    go_ret
    exact ⟨ret1 (by rw [HV.out]; rfl), rfl⟩
  · obtain ⟨k, rfl⟩ : ∃ k, n1 = k + 1 := ⟨n1 - 1, by omega⟩
    have hb : (((k + 1 : Nat) : Int) == 0) = false := beq_f (n := 0) h0
    have e1 : ((k + 1 : Nat) : Int) - 1 = (k : Int) := by omega
    have dX := Dg.dig 4294967296 (by omega) v
    have hv : Hid (∀ x, (∃ h : k < (dig 4294967296 v).length, (dig 4294967296 v)[k] = x) → bitLen v = 32 * k + bitLen x) := by
      show ∀ x, _
      rintro x ⟨h, e⟩
      have hl := h1.len
      have h2 := dig_last 4294967296 (by omega) v (by omega)
      have h3 := bitLen_digitsV dX hl (by
        have e4 : (dig 4294967296 v).length - 1 = k := by omega
        simp only [e4] at h2
        exact h2)
      rw [val_dig _ (by omega), e] at h3
      exact h3
    obtain ⟨b1, o1, x, rfl, hcx, hx⟩ := h1.get k (by omega)
    have hxV : x < 4294967296 := by obtain ⟨h, e⟩ := hx.out; rw [← e]; exact dX.at _ h
    have hbl : bitLen x ≤ 32 := (bitLen_le x 32).2 hxV
    have HB := mkHid (hv.out x hx.out)
    clear hv hx dX
    obtain ⟨bl, hbl2⟩ : ∃ bl, bl = bitLen x := ⟨_, rfl⟩
    rw [← hbl2] at hbl HB
    have HBL := mkHid hbl2
    clear hbl2
    go_enter Try.func25, Try.ntmps25
    go_wp2
    go_loop [4, 5] (fun kv tv => ∃ j t : Nat, kv = .int .i64 (j : Int) ∧ tv = .int .u64 (t : Int) ∧ t < 4294967296 ∧ Hid (j + bitLen t = bl) ∧ j ≤ 32) (fun _ tv => (intOf tv).toNat)
    case atStart => exact ⟨0, x, rfl, rfl, hxV, by show _ = _; rw [HBL.out, Nat.zero_add], by omega⟩
    case round =>
      obtain ⟨j, t, rfl, rfl, htV, ht, hj⟩ := hrel
      by_cases g : 0 < t
      · have t1 : decide (0 < t) = true := decide_eq_true g
        obtain ⟨u, hu⟩ : ∃ u, u = t / 2 := ⟨_, rfl⟩
        have e2 : (t : Int) / 2 = (u : Int) := by omega
        have hut : u < t := by omega
        have hju : Hid (j + 1 + bitLen u = bl) := by
          show _ = _
          have := bitLen_half t g
          rw [hu, ← ht.out, this]; omega
        have hj32 : j + 1 ≤ 32 := by have := hju.out; omega
        clear hu
        go_wp2
        go_round
        case rel => exact ⟨j + 1, u, by go_num, rfl, by omega, hju, by omega⟩
        case measure => simp [intOf]; omega
      · obtain rfl : t = 0 := by omega
        have hjb : Hid (j = bl) := by
          show _ = _
          have := ht.out
          rw [bitLen_zero] at this
          exact this
        go_wp2
        go_ret
        refine ⟨ret1 ?_, rfl⟩
        rw [HB.out, ← hjb.out]
        omega

theorem rbit_any {a1 : Option Addr} {n1 c1 v : Nat} {w : World} (h1 : Sl .u64 w a1 n1 c1 (dig 4294967296 v)) (_hn1 : n1 ≤ 1099511627776) (m : Int) (hm63 : m < 9223372036854775808) :
    Calls Try.prog 27 #[.slice a1 n1 c1, .int .i64 m] w (RetN .u64 w (bitAt v m)) := by
  have hd1 := Dg.dig 4294967296 (by omega) v
  have vX := mkHid (val_dig 4294967296 (by omega) v)
  generalize dig 4294967296 v = xs at *
  by_cases g1 : m < 0
  · have t1 : decide (m < 0) = true := decide_eq_true g1
    go_enter Try.func27, Try.ntmps27
    go_wp2
    go_ret
    exact ⟨ret1 (by unfold bitAt; rw [if_neg (by omega)]; rfl), rfl⟩
  · have t1 : decide (m < 0) = false := decide_eq_false g1
    obtain ⟨j, rfl⟩ := Int.eq_ofNat_of_zero_le (show 0 ≤ m by omega)
    obtain ⟨q, hq⟩ : ∃ q, q = j / 32 := ⟨_, rfl⟩
    obtain ⟨k, hk⟩ : ∃ k, k = j % 32 := ⟨_, rfl⟩
    have e1 : ((j : Int) / 32) = (q : Int) := by omega
    have e2 : ((j : Int) % 32) = (k : Int) := by omega
    have hk32 : k < 32 := by omega
    have hq63 : q < 9223372036854775808 := by omega
    have hj : Hid (j = 32 * q + k) := by show _ = _; omega
    clear hq hk
    have hv : Hid (v / 2 ^ j % 2 = xs.getD q 0 / 2 ^ k % 2) := by
      show _ = _
      rw [hj.out, ← vX.out]
      exact bit_digitV hd1 q k hk32
    by_cases hlt : q < n1
    · have t2 : decide (n1 ≤ q) = false := decide_eq_false (by omega)
      obtain ⟨b1, o1, x, rfl, hcx, hx⟩ := h1.get q hlt
      have hxV : x < 4294967296 := by obtain ⟨h, e⟩ := hx.out; rw [← e]; exact hd1.at _ h
      obtain ⟨z, hz⟩ : ∃ z, z = x / 2 ^ k % 2 := ⟨_, rfl⟩
      obtain ⟨y, hy⟩ : ∃ y, y = x / 2 ^ k := ⟨_, rfl⟩
      have e3 : (x : Int) / 2 ^ k = (y : Int) := by rw [hy, Int.natCast_ediv, Int.natCast_pow]; rfl
      have e4 : (y : Int) % 2 = (z : Int) := by rw [hz, ← hy]; omega
      have HZ := mkHid hz
      clear hz hy
      go_enter Try.func27, Try.ntmps27
      go_wp2
      go_ret
      refine ⟨ret1 ?_, rfl⟩
      unfold bitAt; rw [if_pos (by omega), Int.toNat_natCast, hv.out]
      obtain ⟨h, e⟩ := hx.out
      rw [show xs.getD q 0 = x by rw [← e]; simp [List.getD, h], ← HZ.out]
    · have t2 : decide (n1 ≤ q) = true := decide_eq_true (by omega)
      have hl := mkHid h1.len
      go_enter Try.func27, Try.ntmps27
      go_wp2
      go_ret
      refine ⟨ret1 ?_, rfl⟩
      unfold bitAt; rw [if_pos (by omega), Int.toNat_natCast, hv.out]
      simp [List.getD, show xs.length ≤ q by rw [hl.out]; omega]

theorem replicate_set_last (q y : Nat) : (List.replicate (q + 1) 0).set q y = List.replicate q 0 ++ [y] := by
  rw [List.replicate_succ', List.set_append_right _ _ (by simp)]
  simp

theorem dig_two (q k : Nat) (hk : k < 32) : dig 4294967296 (2 ^ (32 * q + k)) = List.replicate q 0 ++ [2 ^ k] := by
  have h2 : 2 ^ k < 4294967296 := Nat.lt_of_lt_of_le (Nat.pow_lt_pow_right (by omega) hk) (Nat.le_refl (2 ^ 32))
  have hd : Dg 4294967296 (List.replicate q 0 ++ [2 ^ k]) := (Dg.replicate (by omega) q).snoc h2
  have hv : val 4294967296 (List.replicate q 0 ++ [2 ^ k]) = 2 ^ (32 * q + k) := by
    rw [val_snoc, val_replicate, List.length_replicate, pow_V, ← Nat.pow_add, Nat.zero_add]
  rw [← hv]
  refine dig_eq_self _ (by omega) hd (.inr ⟨by simp, ?_⟩)
  simp

theorem rpower_any (m : Nat) (hm : m ≤ 1000000) (w : World) :
    Calls Try.prog 24 #[.int .i64 (m : Int)] w (GivesR w (2 ^ m)) := by
  obtain ⟨q, hq⟩ : ∃ q, q = m / 32 := ⟨_, rfl⟩
  obtain ⟨k, hk⟩ : ∃ k, k = m % 32 := ⟨_, rfl⟩
  have e1 : ((m : Int) / 32) = (q : Int) := by omega
  have e2 : ((m : Int) % 32) = (k : Int) := by omega
  have hk32 : k < 32 := by omega
  have hq6 : q ≤ 1000000 := by omega
  have hj : Hid (m = 32 * q + k) := by show _ = _; omega
  clear hq hk
  obtain ⟨y, hy⟩ : ∃ y, y = 2 ^ k := ⟨_, rfl⟩
  have hyW : y < 18446744073709551616 := by
    rw [hy]
    exact Nat.lt_of_lt_of_le (Nat.pow_lt_pow_right (by omega) hk32) (by decide)
  have e3 : IntKind.u64.wrap ((2 : Int) ^ k) = (y : Int) := by
    rw [IntKind.wrap_u64, ← show ((2 ^ k : Nat) : Int) = (2 : Int) ^ k by rw [Int.natCast_pow]; rfl, ← hy]
    omega
  have HY := mkHid hy
  clear hy
  go_enter Try.func24, Try.ntmps24
  go_wp2_with (first
    | (at_make; refine wpList_mk rfl _ _ _ rfl 54 .u64 8 under_ref info_u64 (q + 1) rfl rfl (by omega) (by omega) (by omega) (by omega) ?_; intro b w2 hB hblk hbel; obtain ⟨z0, hcb, hfb, _⟩ := hblk.get q (by rw [List.length_replicate]; omega)))
  go_ret
  have hb2 := hblk.set q y
  rw [replicate_set_last] at hb2
  refine ⟨_, _, _, rfl, ?_, hbel.setCell hB _⟩
  rw [hj.out, dig_two q k hk32, ← HY.out]
  exact hb2.sl (q + 1) (by simp) (by omega)

end Go.Proofs.Ytaeamlldocbeeaa

/- baileyref1: FromBytes, Bytes. -/

namespace Go.Proofs.Ytaeamlldocbeeaa
open Go.RowKit Num

set_option maxHeartbeats 400000 in
theorem rfrombytes_any {a1 : Option Addr} {n c1 : Nat} {bs : List Nat} {w : World} (h1 : Sl .u8 w a1 n c1 bs) (hd1 : Dg 256 bs) (hn1 : n ≤ 1099511627776) :
    Calls Try.prog 33 #[.slice a1 n c1] w (GivesR w (be bs)) := by
  obtain ⟨N, hN⟩ : ∃ N, N = (n + 3) / 4 := ⟨_, rfl⟩
  have e3 : ((n : Int) + 3) / 4 = (N : Int) := by omega
  have hN8 : n ≤ 4 * N ∧ N ≤ n := by omega
  clear hN
  have hl := mkHid h1.len
  go_enter Try.func33, Try.ntmps33
  go_wp2_with (first
    | (at_make; refine wpList_mk rfl _ _ _ rfl 54 .u64 8 under_ref info_u64 N rfl rfl (by omega) (by omega) (by omega) (by omega) ?_; intro b w2 hB hblk hbel))
  go_loopw [4] (fun iv wr => ∃ (i : Nat) (zs : List Nat), i ≤ n ∧ iv = .int .i64 i ∧ Hid (zs.length = N) ∧ Dg 4294967296 zs ∧
      Hid (val 4294967296 zs = be (bs.take i) * 256 ^ (n - i)) ∧ Blk wr b .u64 54 zs ∧ Below w.heap.size w wr) (fun iv _ => n - (intOf iv).toNat)
  case atStart =>
    refine ⟨0, _, Nat.zero_le _, rfl, ?_, Dg.replicate (by omega) _, ?_, hblk, hbel⟩
    · show _ = _
      simp
    · show _ = _
      rw [val_replicate, List.take_zero]
      simp [be, val]
  case round =>
    clear hblk hbel
    obtain ⟨i, zs, hi, rfl, hz, dz, hv, hblk, hbel⟩ := hrel
    by_cases hlt : i < n
    · obtain ⟨b1, o1, c, rfl, hcx, hc⟩ := (h1.keep hbel).get i hlt
      have hc8 : c < 256 := by obtain ⟨h, e⟩ := hc.out; rw [← e]; exact hd1.at i h
      obtain ⟨k, hk⟩ : ∃ k, k + 1 + i = n := ⟨n - 1 - i, by omega⟩
      obtain ⟨p, hp⟩ : ∃ p, p = k / 4 := ⟨_, rfl⟩
      obtain ⟨r, hr⟩ : ∃ r, r = k % 4 := ⟨_, rfl⟩
      have e4 : (n : Int) - 1 - (i : Int) = (k : Int) := by omega
      have e5 : (k : Int) / 4 = (p : Int) := by omega
      have e6 : (k : Int) % 4 = (r : Int) := by omega
      have hr8 : r < 4 := by omega
      have hpN : p < N := by omega
      have hk9 : k < 1099511627776 := by omega
      have HK := mkHid hk
      have HP : Hid (k = 4 * p + r) := by show _ = _; omega
      clear hk hp hr
      obtain ⟨o, hco, hfo, ho⟩ := hblk.get p (by rw [hz.out]; exact hpN)
      obtain ⟨y, hy⟩ : ∃ y, y = c * 2 ^ (r * 8) := ⟨_, rfl⟩
      obtain ⟨v, hvv⟩ : ∃ v, v = o + y := ⟨_, rfl⟩
      obtain ⟨hop, hoz⟩ := ho.out
      obtain ⟨_, f2, f3⟩ := fb_stepV zs _ c n i k p r o HK.out HP.out hr8 hc8 hop hoz dz hv.out
      rw [← hy, ← hvv] at f2 f3
      have hoV : o < 4294967296 := by rw [← hoz]; exact dz.at _ hop
      have hyV : y < 4294967296 := by omega
      have e7 : IntKind.u64.wrap ((c : Int) * 2 ^ (8 * r)) = (y : Int) := by
        rw [IntKind.wrap_u64, Nat.mul_comm 8, ← show ((c * 2 ^ (r * 8) : Nat) : Int) = (c : Int) * 2 ^ (r * 8) by rw [Int.natCast_mul, Int.natCast_pow]; rfl, ← hy]
        omega
      have e8 : (o : Int) + (y : Int) = (v : Int) := by omega
      have F3 := mkHid f3
      have HY := mkHid hy
      clear hvv f3 hop hoz hy
      go_wp2
      go_region
      go_wp2
      go_roundw
      case rel =>
        refine ⟨i + 1, zs.set p v, by omega, by go_num, ?_, dz.set _ _ f2, ?_, ?_, (hbel.setCell hB _).drew⟩
        · show _ = _
          rw [List.length_set]; exact hz.out
        · show _ = _
          obtain ⟨h, e⟩ := hc.out
          rw [F3.out, be_take_succ _ _ h, e]
        · exact hblk.set p v
      case measure => simp [intOf]; omega
    · obtain rfl : i = n := by omega
      have hval : Hid (val 4294967296 zs = be bs) := by
        show _ = _
        rw [hv.out, List.take_of_length_le (by rw [hl.out]; omega), Nat.sub_self, Nat.pow_zero, Nat.mul_one]
      go_wp2_with (go_at_call 58; (with_reducible refine (rtrim_blk hblk hz.out (by omega) dz hB).mono ?_); rintro e w' ⟨m', rfl, hm', ho, rfl⟩)
      go_ret
      exact ⟨_, _, _, rfl, by rw [← hval.out]; exact ho, hbel⟩

set_option maxHeartbeats 400000 in
theorem rbytes_yes {a1 : Option Addr} {n1 c1 v : Nat} {w : World} (h1 : Sl .u64 w a1 n1 c1 (dig 4294967296 v)) (hn1 : n1 ≤ 1099511627776)
    (n : Nat) (hn : n ≤ 65536) (hbl : bitLen v ≤ 8 * n) :
    Calls Try.prog 31 #[.slice a1 n1 c1, .int .i64 (n : Int)] w (GivesB .u8 5 w true (beN n v)) := by
  have t1 : decide ((n : Int) < 0) = false := decide_eq_false (by omega)
  have t2 : decide (65536 < (n : Int)) = false := decide_eq_false (by omega)
  obtain ⟨bl, hbl'⟩ : ∃ bl, bl = bitLen v := ⟨_, rfl⟩
  rw [← hbl'] at hbl
  have HBL := mkHid hbl'
  clear hbl'
  have t3 : decide (8 * (n : Int) < (bl : Int)) = false := decide_eq_false (by omega)
  go_enter Try.func31, Try.ntmps31
  go_wp2_with (first
    | (go_at_call 25; (with_reducible refine (rbits_any h1 hn1).mono ?_); rintro e w' ⟨rfl, rfl⟩; rw [← HBL.out])
    | (at_make; refine wpList_mk rfl _ _ _ rfl 5 .u8 1 under_bytes info_u8 n rfl rfl (by omega) (by omega) (by omega) (by omega) ?_; intro b w2 hB hblk hbel))
  have hd1 := Dg.dig 4294967296 (by omega) v
  have vX := mkHid (val_dig 4294967296 (by omega) v)
  have hxl := mkHid h1.len
  generalize dig 4294967296 v = xs at *
  go_loopw [7] (fun iv wr => ∃ (k : Nat), k ≤ n ∧ iv = .int .i64 k ∧ Blk wr b .u8 5 (List.replicate (n - k) 0 ++ beN k v) ∧ Below w.heap.size w wr) (fun iv _ => n - (intOf iv).toNat)
  case atStart =>
    exact ⟨0, Nat.zero_le _, rfl, by simpa [beN] using hblk, hbel⟩
  case round =>
    clear hblk hbel
    obtain ⟨k, hk, rfl, hblk, hbel⟩ := hrel
    by_cases hlt : k < n
    · obtain ⟨m, hm⟩ : ∃ m, m + 1 + k = n := ⟨n - 1 - k, by omega⟩
      obtain ⟨p, hp⟩ : ∃ p, p = k / 4 := ⟨_, rfl⟩
      obtain ⟨r, hr⟩ : ∃ r, r = k % 4 := ⟨_, rfl⟩
      have e4 : (n : Int) - 1 - (k : Int) = (m : Int) := by omega
      have e5 : (k : Int) / 4 = (p : Int) := by omega
      have e6 : (k : Int) % 4 = (r : Int) := by omega
      have hr8 : r < 4 := by omega
      have hm9 : m < 1099511627776 := by omega
      have t5 : decide (k < n) = true := decide_eq_true hlt
      have hbyte : Hid (v / 256 ^ k % 256 = xs.getD p 0 / 2 ^ (r * 8) % 256) := by
        show _ = _
        have := byte_digitV hd1 p r hr8
        rwa [vX.out, show 4 * p + r = k by omega] at this
      have HM := mkHid hm
      have HP : Hid (n1 ≤ p → 4 * n1 ≤ k) := by
        intro h
        omega
      clear hm hp hr
      obtain ⟨z0, hcb, hfb, _⟩ := hblk.get m (by rw [List.length_append, List.length_replicate, beN_length]; have := HM.out; omega)
      by_cases hpl : p < n1
      · have t4 : decide (p < n1) = true := decide_eq_true hpl
        obtain ⟨b1, o1, x, rfl, hcx, hx⟩ := (h1.keep hbel).get p hpl
        obtain ⟨y, hy⟩ : ∃ y, y = x / 2 ^ (r * 8) % 256 := ⟨_, rfl⟩
        have hsv : IntKind.u8.wrap ((x : Int) / 2 ^ (8 * r)) = (y : Int) := by
          have e : (x : Int) / 2 ^ (8 * r) = ((x / 2 ^ (r * 8) : Nat) : Int) := by rw [Nat.mul_comm 8, Int.natCast_ediv, Int.natCast_pow]; rfl
          rw [e, hy]
          unfold IntKind.wrap; simp [IntKind.bits, IntKind.signed]
        have HV := mkHid hy
        clear hy
        go_wp2
        go_roundw
        case rel =>
          refine ⟨k + 1, by omega, by go_num, ?_, hbel.setCell hB _⟩
          have := hblk.set m y
          obtain ⟨h, e⟩ := hx.out
          rw [show n - k = m + 1 by have := HM.out; omega, List.set_append_left _ _ (by simp), replicate_set_last, List.append_assoc, List.singleton_append] at this
          have ey : v / 256 ^ k % 256 = y := by rw [hbyte.out, HV.out, show x = xs.getD p 0 by rw [← e]; simp [List.getD, h]]
          rw [show n - (k + 1) = m by have := HM.out; omega, beN_cons, ey]
          exact this
        case measure => simp [intOf]; omega
      · have t4 : decide (p < n1) = false := decide_eq_false hpl
        have hpad : Hid (beN n v = List.replicate (n - k) 0 ++ beN k v) := by
          refine beN_pad n k v ?_ hk
          have h2 := val_lt hd1
          rw [vX.out, hxl.out, pow_V256] at h2
          exact Nat.lt_of_lt_of_le h2 (Nat.pow_le_pow_right (by omega) (HP.out (by omega)))
        go_wp2
        go_ret2
        exact ⟨some ⟨b, 0, none⟩, n, n, rfl, Own.ofBlk (by rw [hpad.out]; exact hblk) hB n (beN_length _ _) (by omega), hbel⟩
    · obtain rfl : k = n := by omega
      have t5 : decide (k < k) = false := decide_eq_false hlt
      go_wp2
      go_ret2
      rw [Nat.sub_self, List.replicate_zero, List.nil_append] at hblk
      exact ⟨some ⟨b, 0, none⟩, k, k, rfl, Own.ofBlk hblk hB k (beN_length _ _) (by omega), hbel⟩

theorem rbytes_no {a1 : Option Addr} {n1 c1 v : Nat} {w : World} (h1 : Sl .u64 w a1 n1 c1 (dig 4294967296 v)) (hn1 : n1 ≤ 1099511627776)
    (m : Int) (hm : m < 0 ∨ 65536 < m ∨ 8 * m < (bitLen v : Int)) :
    Calls Try.prog 31 #[.slice a1 n1 c1, .int .i64 m] w (GivesB .u8 5 w false []) := by
  by_cases g1 : m < 0
  · have t1 : decide (m < 0) = true := decide_eq_true g1
    go_enter Try.func31, Try.ntmps31
    go_wp2
    go_ret2
    exact ⟨none, 0, 0, rfl, Own.nilOwn _ _ _ _, Below.refl _ _⟩
  · have t1 : decide (m < 0) = false := decide_eq_false g1
    by_cases g2 : 65536 < m
    · have t2 : decide (65536 < m) = true := decide_eq_true g2
      go_enter Try.func31, Try.ntmps31
      go_wp2
      go_ret2
      exact ⟨none, 0, 0, rfl, Own.nilOwn _ _ _ _, Below.refl _ _⟩
    · have t2 : decide (65536 < m) = false := decide_eq_false g2
      obtain ⟨bl, hbl'⟩ : ∃ bl, bl = bitLen v := ⟨_, rfl⟩
      have t3 : decide (8 * m < (bl : Int)) = true := decide_eq_true (by rw [hbl']; omega)
      have HBL := mkHid hbl'
      clear hbl' hm
      go_enter Try.func31, Try.ntmps31
      go_wp2_with (first
        | (go_at_call 25; (with_reducible refine (rbits_any h1 hn1).mono ?_); rintro e w' ⟨rfl, rfl⟩; rw [← HBL.out]))
      go_ret2
      exact ⟨none, 0, 0, rfl, Own.nilOwn _ _ _ _, Below.refl _ _⟩

theorem rbytes_any {a1 : Option Addr} {n1 c1 v : Nat} {w : World} (h1 : Sl .u64 w a1 n1 c1 (dig 4294967296 v)) (hn1 : n1 ≤ 1099511627776) (m : Int) :
    Calls Try.prog 31 #[.slice a1 n1 c1, .int .i64 m] w (GivesB .u8 5 w (fitsB v m) (if fitsB v m then beN m.toNat v else [])) := by
  by_cases hm : 0 ≤ m ∧ m ≤ 65536 ∧ (bitLen v : Int) ≤ 8 * m
  · have e : fitsB v m = true := decide_eq_true hm
    rw [e]
    obtain ⟨j, rfl⟩ := Int.eq_ofNat_of_zero_le hm.1
    exact rbytes_yes h1 hn1 j (by omega) (by omega)
  · have e : fitsB v m = false := decide_eq_false hm
    rw [e]
    exact rbytes_no h1 hn1 m (by omega)

end Go.Proofs.Ytaeamlldocbeeaa
