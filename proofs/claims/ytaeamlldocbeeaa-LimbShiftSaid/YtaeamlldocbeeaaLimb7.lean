/- limb: FromBytes, Bytes. -/
import Derived.Test.YtaeamlldocbeeaaLimb6
namespace Go.Proofs.Ytaeamlldocbeeaa
open Go.RowKit Num

theorem under_bytes : Try.prog.underlying 47 = some (.slice 5) := by kernel_rfl

theorem frombytes_any {a1 : Option Addr} {n c1 : Nat} {bs : List Nat} {w : World} (h1 : Sl .u8 w a1 n c1 bs) (hd1 : Dg 256 bs) (hn1 : n ≤ 1099511627776) :
    Calls Try.prog 32 #[.slice a1 n c1] w (Gives .u64 54 w (dig 18446744073709551616 (be bs))) := by
  obtain ⟨N, hN⟩ : ∃ N, N = (n + 7) / 8 := ⟨_, rfl⟩
  have e3 : ((n : Int) + 7) / 8 = (N : Int) := by omega
  have hN8 : n ≤ 8 * N ∧ N ≤ n := by omega
  clear hN
  have hl := mkHid h1.len
  go_enter Try.func32, Try.ntmps32
  go_wp2_with (first
    | (at_make; refine wpList_mk rfl _ _ _ rfl 54 .u64 8 under_nat info_u64 N rfl rfl (by omega) (by omega) (by omega) (by omega) ?_; intro b w2 hB hblk hbel))
  go_loopw [14] (fun iv wr => ∃ (i : Nat) (zs : List Nat), i ≤ n ∧ iv = .int .i64 i ∧ Hid (zs.length = N) ∧ Dg 18446744073709551616 zs ∧
      Hid (val 18446744073709551616 zs = be (bs.take i) * 256 ^ (n - i)) ∧ Blk wr b .u64 54 zs ∧ Below w.heap.size w wr) (fun iv _ => n - (intOf iv).toNat)
  case atStart =>
    refine ⟨0, _, Nat.zero_le _, rfl, ?_, Dg.replicate (by omega) _, ?_, hblk, hbel⟩
    · show _ = _
      simp
    · show _ = _
      rw [val_replicate, List.take_zero]
      simp [be, val]
  case round =>
    clear hblk hbel
    obtain ⟨i, zs, hi, rfl, hz, dz, hv, hblk, hbel⟩ := hrel
    by_cases hlt : i < n
    · obtain ⟨b1, o1, c, rfl, hcx, hc⟩ := (h1.keep hbel).get i hlt
      have hc8 : c < 256 := by obtain ⟨h, e⟩ := hc.out; rw [← e]; exact hd1.at i h
      obtain ⟨k, hk⟩ : ∃ k, k + 1 + i = n := ⟨n - 1 - i, by omega⟩
      obtain ⟨p, hp⟩ : ∃ p, p = k / 8 := ⟨_, rfl⟩
      obtain ⟨r, hr⟩ : ∃ r, r = k % 8 := ⟨_, rfl⟩
      have e4 : (n : Int) - 1 - (i : Int) = (k : Int) := by omega
      have e5 : (k : Int) / 8 = (p : Int) := by omega
      have e6 : (k : Int) % 8 = (r : Int) := by omega
      have hr8 : r < 8 := by omega
      have hpN : p < N := by omega
      have hk9 : k < 1099511627776 := by omega
      have HK := mkHid hk
      have HP : Hid (k = 8 * p + r) := by show _ = _; omega
      clear hk hp hr
      obtain ⟨o, hco, hfo, ho⟩ := hblk.get p (by rw [hz.out]; exact hpN)
      obtain ⟨v, hvv⟩ : ∃ v, v = o + c * 2 ^ (r * 8) := ⟨_, rfl⟩
      obtain ⟨hop, hoz⟩ := ho.out
      obtain ⟨f1, f2, f3⟩ := fb_step zs _ c n i k p r o HK.out HP.out hr8 hc8 hop hoz dz hv.out
      rw [← hvv] at f1 f2 f3
      have hoW : o < 18446744073709551616 := by rw [← hoz]; exact dz.at _ hop
      have hcW : c * 2 ^ (r * 8) < 18446744073709551616 := by omega
      have hor : bits .or .u64 (o : Int) (IntKind.u64.wrap ((c : Int) * 2 ^ (r * 8))) = (v : Int) := by
        have e : IntKind.u64.wrap ((c : Int) * 2 ^ (r * 8)) = ((c * 2 ^ (r * 8) : Nat) : Int) := by
          rw [IntKind.wrap_u64, Int.natCast_mul, Int.natCast_pow, Int.emod_eq_of_lt]
          · rfl
          · exact Int.mul_nonneg (by omega) (Int.pow_nonneg (by omega))
          · have : ((c * 2 ^ (r * 8) : Nat) : Int) < ((18446744073709551616 : Nat) : Int) := by omega
            rw [Int.natCast_mul, Int.natCast_pow] at this
            exact this
        rw [e, bits_or_u64_nat _ _ hoW hcW, f1]
      have F3 := mkHid f3
      clear hvv f1 f3 hop hoz hcW
      go_wp2
      go_region
      go_wp2
      go_roundw
      case rel =>
        refine ⟨i + 1, zs.set p v, by omega, by go_num, ?_, dz.set _ _ f2, ?_, hblk.set _ _, (hbel.setCell hB _).drew⟩
        · show _ = _
          rw [List.length_set]; exact hz.out
        · show _ = _
          obtain ⟨h, e⟩ := hc.out
          rw [F3.out, be_take_succ _ _ h, e]
      case measure => simp [intOf]; omega
    · obtain rfl : i = n := by omega
      have hown := Own.ofBlk hblk hB N hz.out (by omega)
      have hval : Hid (val 18446744073709551616 zs = be bs) := by
        show _ = _
        rw [hv.out, List.take_of_length_le (by rw [hl.out]; omega), Nat.sub_self, Nat.pow_zero, Nat.mul_one]
      go_wp2_with (go_at_call 59; (with_reducible refine (trim_own hown dz).mono ?_); rintro e w' ⟨m', rfl, hm', ho, rfl⟩)
      go_ret
      exact ⟨_, _, _, rfl, by rw [← hval.out]; exact ho, hbel⟩

theorem bytes_yes {a1 : Option Addr} {n1 c1 : Nat} {xs : List Nat} {w : World} (h1 : Sl .u64 w a1 n1 c1 xs) (hd1 : Dg 18446744073709551616 xs) (hn1 : n1 ≤ 1099511627776)
    (n : Nat) (hn : n ≤ 65536) (hbl : bitLen (val 18446744073709551616 xs) ≤ 8 * n) :
    Calls Try.prog 30 #[.slice a1 n1 c1, .int .i64 (n : Int)] w (GivesB .u8 5 w true (beN n (val 18446744073709551616 xs))) := by
  have t1 : decide ((n : Int) < 0) = false := decide_eq_false (by omega)
  have t2 : decide (65536 < (n : Int)) = false := decide_eq_false (by omega)
  obtain ⟨bl, hbl'⟩ : ∃ bl, bl = bitLen (val 18446744073709551616 xs) := ⟨_, rfl⟩
  rw [← hbl'] at hbl
  have HBL := mkHid hbl'
  clear hbl'
  have t3 : decide (8 * (n : Int) < (bl : Int)) = false := decide_eq_false (by omega)
  go_enter Try.func30, Try.ntmps30
  go_wp2_with (first
    | (go_at_call 28; (with_reducible refine (bits_any h1 hd1 hn1).mono ?_); rintro e w' ⟨rfl, rfl⟩; rw [← HBL.out])
    | (at_make; refine wpList_mk rfl _ _ _ rfl 5 .u8 1 under_bytes info_u8 n rfl rfl (by omega) (by omega) (by omega) (by omega) ?_; intro b w2 hB hblk hbel))
  go_loopw [26] (fun iv wr => ∃ (i : Nat), i ≤ n ∧ iv = .int .i64 i ∧ Blk wr b .u8 5 ((beN n (val 18446744073709551616 xs)).take i ++ List.replicate (n - i) 0) ∧ Below w.heap.size w wr) (fun iv _ => n - (intOf iv).toNat)
  case atStart =>
    exact ⟨0, Nat.zero_le _, rfl, by simpa using hblk, hbel⟩
  case round =>
    clear hblk hbel
    obtain ⟨i, hi, rfl, hblk, hbel⟩ := hrel
    have hzl : ((beN n (val 18446744073709551616 xs)).take i).length = i := by rw [List.length_take, beN_length]; omega
    have HZ := mkHid hzl
    clear hzl
    by_cases hlt : i < n
    · obtain ⟨k, hk⟩ : ∃ k, k + 1 + i = n := ⟨n - 1 - i, by omega⟩
      obtain ⟨p, hp⟩ : ∃ p, p = k / 8 := ⟨_, rfl⟩
      obtain ⟨r, hr⟩ : ∃ r, r = k % 8 := ⟨_, rfl⟩
      have e4 : (n : Int) - 1 - (i : Int) = (k : Int) := by omega
      have e5 : (k : Int) / 8 = (p : Int) := by omega
      have e6 : (k : Int) % 8 = (r : Int) := by omega
      have hr8 : r < 8 := by omega
      have hk9 : k < 1099511627776 := by omega
      have hbyte := byte_digit hd1 p r hr8
      rw [show 8 * p + r = n - 1 - i by omega] at hbyte
      have htake := beN_take_succ n (val 18446744073709551616 xs) i hlt
      rw [hbyte] at htake
      have HT := mkHid htake
      have HK := mkHid hk
      clear hk hp hr hbyte htake
      obtain ⟨z0, hcb, hfb, _⟩ := hblk.get i (by rw [length_grow _ i n 0 HZ.out (by omega)]; omega)
      by_cases hpl : p < n1
      · have t4 : decide (p < n1) = true := decide_eq_true hpl
        obtain ⟨b1, o1, x, rfl, hcx, hx⟩ := (h1.keep hbel).get p hpl
        obtain ⟨v, hv⟩ : ∃ v, v = x / 2 ^ (r * 8) % 256 := ⟨_, rfl⟩
        have hsv : IntKind.u8.wrap ((x : Int) / 2 ^ (r * 8)) = (v : Int) := by
          have e : (x : Int) / 2 ^ (r * 8) = ((x / 2 ^ (r * 8) : Nat) : Int) := by rw [Int.natCast_ediv, Int.natCast_pow]; rfl
          rw [e, hv]
          unfold IntKind.wrap; simp [IntKind.bits, IntKind.signed]
        have HV := mkHid hv
        clear hv
        go_wp2
        go_roundw
        case rel =>
          refine ⟨i + 1, by omega, by go_num, ?_, hbel.setCell hB _⟩
          have := hblk.set i v
          rw [set_grow _ i n v 0 HZ.out hlt] at this
          rw [HT.out]
          obtain ⟨h, e⟩ := hx.out
          rw [show xs.getD p 0 = x by rw [← e]; simp [List.getD, h], ← HV.out]
          exact this
        case measure => simp [intOf]; omega
      · have t4 : decide (p < n1) = false := decide_eq_false hpl
        have hxl := mkHid h1.len
        go_wp2
        go_roundw
        case rel =>
          refine ⟨i + 1, by omega, by go_num, ?_, hbel⟩
          rw [HT.out]
          rw [show xs.getD p 0 = 0 by simp [List.getD, show xs.length ≤ p by rw [hxl.out]; omega], Nat.zero_div, Nat.zero_mod]
          rw [show n - i = (n - (i + 1)) + 1 by omega, List.replicate_succ] at hblk
          rw [List.append_assoc]
          exact hblk
        case measure => simp [intOf]; omega
    · obtain rfl : i = n := by omega
      go_wp2
      go_ret2
      refine ⟨some ⟨b, 0, none⟩, i, i, rfl, ?_, hbel⟩
      rw [Nat.sub_self, List.replicate_zero, List.append_nil, List.take_of_length_le (by rw [beN_length]; exact Nat.le_refl _)] at hblk
      exact Own.ofBlk hblk hB i (beN_length _ _) (by omega)

theorem bytes_no {a1 : Option Addr} {n1 c1 : Nat} {xs : List Nat} {w : World} (h1 : Sl .u64 w a1 n1 c1 xs) (hd1 : Dg 18446744073709551616 xs) (hn1 : n1 ≤ 1099511627776)
    (m : Int) (hm : m < 0 ∨ 65536 < m ∨ 8 * m < (bitLen (val 18446744073709551616 xs) : Int)) :
    Calls Try.prog 30 #[.slice a1 n1 c1, .int .i64 m] w (GivesB .u8 5 w false []) := by
  by_cases g1 : m < 0
  · have t1 : decide (m < 0) = true := decide_eq_true g1
    go_enter Try.func30, Try.ntmps30
    go_wp2
    go_ret2
    exact ⟨none, 0, 0, rfl, Own.nilOwn _ _ _ _, Below.refl _ _⟩
  · have t1 : decide (m < 0) = false := decide_eq_false g1
    by_cases g2 : 65536 < m
    · have t2 : decide (65536 < m) = true := decide_eq_true g2
      go_enter Try.func30, Try.ntmps30
      go_wp2
      go_ret2
      exact ⟨none, 0, 0, rfl, Own.nilOwn _ _ _ _, Below.refl _ _⟩
    · have t2 : decide (65536 < m) = false := decide_eq_false g2
      obtain ⟨bl, hbl'⟩ : ∃ bl, bl = bitLen (val 18446744073709551616 xs) := ⟨_, rfl⟩
      have t3 : decide (8 * m < (bl : Int)) = true := decide_eq_true (by rw [hbl']; omega)
      have HBL := mkHid hbl'
      clear hbl' hm
      go_enter Try.func30, Try.ntmps30
      go_wp2_with (first
        | (go_at_call 28; (with_reducible refine (bits_any h1 hd1 hn1).mono ?_); rintro e w' ⟨rfl, rfl⟩; rw [← HBL.out]))
      go_ret2
      exact ⟨none, 0, 0, rfl, Own.nilOwn _ _ _ _, Below.refl _ _⟩

/-- whether a number fits into so many bytes that may be asked for -/
def fitsB (v : Nat) (m : Int) : Bool := decide (0 ≤ m ∧ m ≤ 65536 ∧ (bitLen v : Int) ≤ 8 * m)

/-- limb.Bytes, at any count -/
theorem bytes_any {a1 : Option Addr} {n1 c1 : Nat} {xs : List Nat} {w : World} (h1 : Sl .u64 w a1 n1 c1 xs) (hd1 : Dg 18446744073709551616 xs) (hn1 : n1 ≤ 1099511627776) (m : Int) :
    Calls Try.prog 30 #[.slice a1 n1 c1, .int .i64 m] w (GivesB .u8 5 w (fitsB (val 18446744073709551616 xs) m) (if fitsB (val 18446744073709551616 xs) m then beN m.toNat (val 18446744073709551616 xs) else [])) := by
  by_cases hm : 0 ≤ m ∧ m ≤ 65536 ∧ (bitLen (val 18446744073709551616 xs) : Int) ≤ 8 * m
  · have e : fitsB (val 18446744073709551616 xs) m = true := decide_eq_true hm
    rw [e]
    obtain ⟨j, rfl⟩ := Int.eq_ofNat_of_zero_le hm.1
    exact bytes_yes h1 hd1 hn1 j (by omega) (by omega)
  · have e : fitsB (val 18446744073709551616 xs) m = false := decide_eq_false hm
    rw [e]
    exact bytes_no h1 hd1 hn1 m (by omega)

end Go.Proofs.Ytaeamlldocbeeaa
