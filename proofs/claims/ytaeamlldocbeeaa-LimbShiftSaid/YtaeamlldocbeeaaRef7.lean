/- baileyref1: FromBytes, Bytes. -/
import Derived.Test.YtaeamlldocbeeaaRef6
import Derived.Test.YtaeamlldocbeeaaLimb7
namespace Go.Proofs.Ytaeamlldocbeeaa
open Go.RowKit Num

set_option maxHeartbeats 400000 in
theorem rfrombytes_any {a1 : Option Addr} {n c1 : Nat} {bs : List Nat} {w : World} (h1 : Sl .u8 w a1 n c1 bs) (hd1 : Dg 256 bs) (hn1 : n ≤ 1099511627776) :
    Calls Try.prog 33 #[.slice a1 n c1] w (GivesR w (be bs)) := by
  obtain ⟨N, hN⟩ : ∃ N, N = (n + 3) / 4 := ⟨_, rfl⟩
  have e3 : ((n : Int) + 3) / 4 = (N : Int) := by omega
  have hN8 : n ≤ 4 * N ∧ N ≤ n := by omega
  clear hN
  have hl := mkHid h1.len
  go_enter Try.func33, Try.ntmps33
  go_wp2_with (first
    | (at_make; refine wpList_mk rfl _ _ _ rfl 54 .u64 8 under_ref info_u64 N rfl rfl (by omega) (by omega) (by omega) (by omega) ?_; intro b w2 hB hblk hbel))
  go_loopw [4] (fun iv wr => ∃ (i : Nat) (zs : List Nat), i ≤ n ∧ iv = .int .i64 i ∧ Hid (zs.length = N) ∧ Dg 4294967296 zs ∧
      Hid (val 4294967296 zs = be (bs.take i) * 256 ^ (n - i)) ∧ Blk wr b .u64 54 zs ∧ Below w.heap.size w wr) (fun iv _ => n - (intOf iv).toNat)
  case atStart =>
    refine ⟨0, _, Nat.zero_le _, rfl, ?_, Dg.replicate (by omega) _, ?_, hblk, hbel⟩
    · show _ = _
      simp
    · show _ = _
      rw [val_replicate, List.take_zero]
      simp [be, val]
  case round =>
    clear hblk hbel
    obtain ⟨i, zs, hi, rfl, hz, dz, hv, hblk, hbel⟩ := hrel
    by_cases hlt : i < n
    · obtain ⟨b1, o1, c, rfl, hcx, hc⟩ := (h1.keep hbel).get i hlt
      have hc8 : c < 256 := by obtain ⟨h, e⟩ := hc.out; rw [← e]; exact hd1.at i h
      obtain ⟨k, hk⟩ : ∃ k, k + 1 + i = n := ⟨n - 1 - i, by omega⟩
      obtain ⟨p, hp⟩ : ∃ p, p = k / 4 := ⟨_, rfl⟩
      obtain ⟨r, hr⟩ : ∃ r, r = k % 4 := ⟨_, rfl⟩
      have e4 : (n : Int) - 1 - (i : Int) = (k : Int) := by omega
      have e5 : (k : Int) / 4 = (p : Int) := by omega
      have e6 : (k : Int) % 4 = (r : Int) := by omega
      have hr8 : r < 4 := by omega
      have hpN : p < N := by omega
      have hk9 : k < 1099511627776 := by omega
      have HK := mkHid hk
      have HP : Hid (k = 4 * p + r) := by show _ = _; omega
      clear hk hp hr
      obtain ⟨o, hco, hfo, ho⟩ := hblk.get p (by rw [hz.out]; exact hpN)
      obtain ⟨y, hy⟩ : ∃ y, y = c * 2 ^ (r * 8) := ⟨_, rfl⟩
      obtain ⟨v, hvv⟩ : ∃ v, v = o + y := ⟨_, rfl⟩
      obtain ⟨hop, hoz⟩ := ho.out
      obtain ⟨_, f2, f3⟩ := fb_stepV zs _ c n i k p r o HK.out HP.out hr8 hc8 hop hoz dz hv.out
      rw [← hy, ← hvv] at f2 f3
      have hoV : o < 4294967296 := by rw [← hoz]; exact dz.at _ hop
      have hyV : y < 4294967296 := by omega
      have e7 : IntKind.u64.wrap ((c : Int) * 2 ^ (8 * r)) = (y : Int) := by
        rw [IntKind.wrap_u64, Nat.mul_comm 8, ← show ((c * 2 ^ (r * 8) : Nat) : Int) = (c : Int) * 2 ^ (r * 8) by rw [Int.natCast_mul, Int.natCast_pow]; rfl, ← hy]
        omega
      have e8 : (o : Int) + (y : Int) = (v : Int) := by omega
      have F3 := mkHid f3
      have HY := mkHid hy
      clear hvv f3 hop hoz hy
      go_wp2
      go_region
      go_wp2
      go_roundw
      case rel =>
        refine ⟨i + 1, zs.set p v, by omega, by go_num, ?_, dz.set _ _ f2, ?_, ?_, (hbel.setCell hB _).drew⟩
        · show _ = _
          rw [List.length_set]; exact hz.out
        · show _ = _
          obtain ⟨h, e⟩ := hc.out
          rw [F3.out, be_take_succ _ _ h, e]
        · exact hblk.set p v
      case measure => simp [intOf]; omega
    · obtain rfl : i = n := by omega
      have hval : Hid (val 4294967296 zs = be bs) := by
        show _ = _
        rw [hv.out, List.take_of_length_le (by rw [hl.out]; omega), Nat.sub_self, Nat.pow_zero, Nat.mul_one]
      go_wp2_with (go_at_call 58; (with_reducible refine (rtrim_blk hblk hz.out (by omega) dz hB).mono ?_); rintro e w' ⟨m', rfl, hm', ho, rfl⟩)
      go_ret
      exact ⟨_, _, _, rfl, by rw [← hval.out]; exact ho, hbel⟩

set_option maxHeartbeats 400000 in
theorem rbytes_yes {a1 : Option Addr} {n1 c1 v : Nat} {w : World} (h1 : Sl .u64 w a1 n1 c1 (dig 4294967296 v)) (hn1 : n1 ≤ 1099511627776)
    (n : Nat) (hn : n ≤ 65536) (hbl : bitLen v ≤ 8 * n) :
    Calls Try.prog 31 #[.slice a1 n1 c1, .int .i64 (n : Int)] w (GivesB .u8 5 w true (beN n v)) := by
  have t1 : decide ((n : Int) < 0) = false := decide_eq_false (by omega)
  have t2 : decide (65536 < (n : Int)) = false := decide_eq_false (by omega)
  obtain ⟨bl, hbl'⟩ : ∃ bl, bl = bitLen v := ⟨_, rfl⟩
  rw [← hbl'] at hbl
  have HBL := mkHid hbl'
  clear hbl'
  have t3 : decide (8 * (n : Int) < (bl : Int)) = false := decide_eq_false (by omega)
  go_enter Try.func31, Try.ntmps31
  go_wp2_with (first
    | (go_at_call 25; (with_reducible refine (rbits_any h1 hn1).mono ?_); rintro e w' ⟨rfl, rfl⟩; rw [← HBL.out])
    | (at_make; refine wpList_mk rfl _ _ _ rfl 5 .u8 1 under_bytes info_u8 n rfl rfl (by omega) (by omega) (by omega) (by omega) ?_; intro b w2 hB hblk hbel))
  have hd1 := Dg.dig 4294967296 (by omega) v
  have vX := mkHid (val_dig 4294967296 (by omega) v)
  have hxl := mkHid h1.len
  generalize dig 4294967296 v = xs at *
  go_loopw [7] (fun iv wr => ∃ (k : Nat), k ≤ n ∧ iv = .int .i64 k ∧ Blk wr b .u8 5 (List.replicate (n - k) 0 ++ beN k v) ∧ Below w.heap.size w wr) (fun iv _ => n - (intOf iv).toNat)
  case atStart =>
    exact ⟨0, Nat.zero_le _, rfl, by simpa [beN] using hblk, hbel⟩
  case round =>
    clear hblk hbel
    obtain ⟨k, hk, rfl, hblk, hbel⟩ := hrel
    by_cases hlt : k < n
    · obtain ⟨m, hm⟩ : ∃ m, m + 1 + k = n := ⟨n - 1 - k, by omega⟩
      obtain ⟨p, hp⟩ : ∃ p, p = k / 4 := ⟨_, rfl⟩
      obtain ⟨r, hr⟩ : ∃ r, r = k % 4 := ⟨_, rfl⟩
      have e4 : (n : Int) - 1 - (k : Int) = (m : Int) := by omega
      have e5 : (k : Int) / 4 = (p : Int) := by omega
      have e6 : (k : Int) % 4 = (r : Int) := by omega
      have hr8 : r < 4 := by omega
      have hm9 : m < 1099511627776 := by omega
      have t5 : decide (k < n) = true := decide_eq_true hlt
      have hbyte : Hid (v / 256 ^ k % 256 = xs.getD p 0 / 2 ^ (r * 8) % 256) := by
        show _ = _
        have := byte_digitV hd1 p r hr8
        rwa [vX.out, show 4 * p + r = k by omega] at this
      have HM := mkHid hm
      have HP : Hid (n1 ≤ p → 4 * n1 ≤ k) := by
        intro h
        omega
      clear hm hp hr
      obtain ⟨z0, hcb, hfb, _⟩ := hblk.get m (by rw [List.length_append, List.length_replicate, beN_length]; have := HM.out; omega)
      by_cases hpl : p < n1
      · have t4 : decide (p < n1) = true := decide_eq_true hpl
        obtain ⟨b1, o1, x, rfl, hcx, hx⟩ := (h1.keep hbel).get p hpl
        obtain ⟨y, hy⟩ : ∃ y, y = x / 2 ^ (r * 8) % 256 := ⟨_, rfl⟩
        have hsv : IntKind.u8.wrap ((x : Int) / 2 ^ (8 * r)) = (y : Int) := by
          have e : (x : Int) / 2 ^ (8 * r) = ((x / 2 ^ (r * 8) : Nat) : Int) := by rw [Nat.mul_comm 8, Int.natCast_ediv, Int.natCast_pow]; rfl
          rw [e, hy]
          unfold IntKind.wrap; simp [IntKind.bits, IntKind.signed]
        have HV := mkHid hy
        clear hy
        go_wp2
        go_roundw
        case rel =>
          refine ⟨k + 1, by omega, by go_num, ?_, hbel.setCell hB _⟩
          have := hblk.set m y
          obtain ⟨h, e⟩ := hx.out
          rw [show n - k = m + 1 by have := HM.out; omega, List.set_append_left _ _ (by simp), replicate_set_last, List.append_assoc, List.singleton_append] at this
          have ey : v / 256 ^ k % 256 = y := by rw [hbyte.out, HV.out, show x = xs.getD p 0 by rw [← e]; simp [List.getD, h]]
          rw [show n - (k + 1) = m by have := HM.out; omega, beN_cons, ey]
          exact this
        case measure => simp [intOf]; omega
      · have t4 : decide (p < n1) = false := decide_eq_false hpl
        have hpad : Hid (beN n v = List.replicate (n - k) 0 ++ beN k v) := by
          refine beN_pad n k v ?_ hk
          have h2 := val_lt hd1
          rw [vX.out, hxl.out, pow_V256] at h2
          exact Nat.lt_of_lt_of_le h2 (Nat.pow_le_pow_right (by omega) (HP.out (by omega)))
        go_wp2
        go_ret2
        exact ⟨some ⟨b, 0, none⟩, n, n, rfl, Own.ofBlk (by rw [hpad.out]; exact hblk) hB n (beN_length _ _) (by omega), hbel⟩
    · obtain rfl : k = n := by omega
      have t5 : decide (k < k) = false := decide_eq_false hlt
      go_wp2
      go_ret2
      rw [Nat.sub_self, List.replicate_zero, List.nil_append] at hblk
      exact ⟨some ⟨b, 0, none⟩, k, k, rfl, Own.ofBlk hblk hB k (beN_length _ _) (by omega), hbel⟩

theorem rbytes_no {a1 : Option Addr} {n1 c1 v : Nat} {w : World} (h1 : Sl .u64 w a1 n1 c1 (dig 4294967296 v)) (hn1 : n1 ≤ 1099511627776)
    (m : Int) (hm : m < 0 ∨ 65536 < m ∨ 8 * m < (bitLen v : Int)) :
    Calls Try.prog 31 #[.slice a1 n1 c1, .int .i64 m] w (GivesB .u8 5 w false []) := by
  by_cases g1 : m < 0
  · have t1 : decide (m < 0) = true := decide_eq_true g1
    go_enter Try.func31, Try.ntmps31
    go_wp2
    go_ret2
    exact ⟨none, 0, 0, rfl, Own.nilOwn _ _ _ _, Below.refl _ _⟩
  · have t1 : decide (m < 0) = false := decide_eq_false g1
    by_cases g2 : 65536 < m
    · have t2 : decide (65536 < m) = true := decide_eq_true g2
      go_enter Try.func31, Try.ntmps31
      go_wp2
      go_ret2
      exact ⟨none, 0, 0, rfl, Own.nilOwn _ _ _ _, Below.refl _ _⟩
    · have t2 : decide (65536 < m) = false := decide_eq_false g2
      obtain ⟨bl, hbl'⟩ : ∃ bl, bl = bitLen v := ⟨_, rfl⟩
      have t3 : decide (8 * m < (bl : Int)) = true := decide_eq_true (by rw [hbl']; omega)
      have HBL := mkHid hbl'
      clear hbl' hm
      go_enter Try.func31, Try.ntmps31
      go_wp2_with (first
        | (go_at_call 25; (with_reducible refine (rbits_any h1 hn1).mono ?_); rintro e w' ⟨rfl, rfl⟩; rw [← HBL.out]))
      go_ret2
      exact ⟨none, 0, 0, rfl, Own.nilOwn _ _ _ _, Below.refl _ _⟩

theorem rbytes_any {a1 : Option Addr} {n1 c1 v : Nat} {w : World} (h1 : Sl .u64 w a1 n1 c1 (dig 4294967296 v)) (hn1 : n1 ≤ 1099511627776) (m : Int) :
    Calls Try.prog 31 #[.slice a1 n1 c1, .int .i64 m] w (GivesB .u8 5 w (fitsB v m) (if fitsB v m then beN m.toNat v else [])) := by
  by_cases hm : 0 ≤ m ∧ m ≤ 65536 ∧ (bitLen v : Int) ≤ 8 * m
  · have e : fitsB v m = true := decide_eq_true hm
    rw [e]
    obtain ⟨j, rfl⟩ := Int.eq_ofNat_of_zero_le hm.1
    exact rbytes_yes h1 hn1 j (by omega) (by omega)
  · have e : fitsB v m = false := decide_eq_false hm
    rw [e]
    exact rbytes_no h1 hn1 m (by omega)

end Go.Proofs.Ytaeamlldocbeeaa
