/- RefC: Ref6, Ref7. -/
import Derived.Test.YtaeamlldocbeeaaDoorRefB
import Derived.Test.YtaeamlldocbeeaaDoorLimbB
import Derived.Test.YtaeamlldocbeeaaDoorNumA

/- baileyref1: Bits, Bit, Power2. -/

namespace Go.Proofs.YtaeamlldocbeeaaDoor
open Go.RowKit Num

theorem rbits_any {a1 : Option Addr} {n1 c1 v : Nat} {w : World} (h1 : Sl .u64 w a1 n1 c1 (dig 4294967296 v)) (hn1 : n1 ≤ 1099511627776) :
    Calls Tryd.prog 29 #[.slice a1 n1 c1] w (RetN .i64 w (bitLen v)) := by
  by_cases h0 : n1 = 0
  · subst h0
    have hv : v = 0 := (dig_eq_nil 4294967296 (by omega) v).1 (List.eq_nil_of_length_eq_zero h1.len)
    have HV := mkHid hv
    clear hv
    go_enter Tryd.func29, Tryd.ntmps29
    go_wp2
    go_ret
    exact ⟨ret1 (by rw [HV.out]; rfl), rfl⟩
  · obtain ⟨k, rfl⟩ : ∃ k, n1 = k + 1 := ⟨n1 - 1, by omega⟩
    have hb : (((k + 1 : Nat) : Int) == 0) = false := beq_f (n := 0) h0
    have e1 : ((k + 1 : Nat) : Int) - 1 = (k : Int) := by omega
    have dX := Dg.dig 4294967296 (by omega) v
    have hv : Hid (∀ x, (∃ h : k < (dig 4294967296 v).length, (dig 4294967296 v)[k] = x) → bitLen v = 32 * k + bitLen x) := by
      show ∀ x, _
      rintro x ⟨h, e⟩
      have hl := h1.len
      have h2 := dig_last 4294967296 (by omega) v (by omega)
      have h3 := bitLen_digitsV dX hl (by
        have e4 : (dig 4294967296 v).length - 1 = k := by omega
        simp only [e4] at h2
        exact h2)
      rw [val_dig _ (by omega), e] at h3
      exact h3
    obtain ⟨b1, o1, x, rfl, hcx, hx⟩ := h1.get k (by omega)
    have hxV : x < 4294967296 := by obtain ⟨h, e⟩ := hx.out; rw [← e]; exact dX.at _ h
    have hbl : bitLen x ≤ 32 := (bitLen_le x 32).2 hxV
    have HB := mkHid (hv.out x hx.out)
    clear hv hx dX
    obtain ⟨bl, hbl2⟩ : ∃ bl, bl = bitLen x := ⟨_, rfl⟩
    rw [← hbl2] at hbl HB
    have HBL := mkHid hbl2
    clear hbl2
    go_enter Tryd.func29, Tryd.ntmps29
    go_wp2
    go_loop [4, 5] (fun kv tv => ∃ j t : Nat, kv = .int .i64 (j : Int) ∧ tv = .int .u64 (t : Int) ∧ t < 4294967296 ∧ Hid (j + bitLen t = bl) ∧ j ≤ 32) (fun _ tv => (intOf tv).toNat)
    case atStart => exact ⟨0, x, rfl, rfl, hxV, by show _ = _; rw [HBL.out, Nat.zero_add], by omega⟩
    case round =>
      obtain ⟨j, t, rfl, rfl, htV, ht, hj⟩ := hrel
      by_cases g : 0 < t
      · have t1 : decide (0 < t) = true := decide_eq_true g
        obtain ⟨u, hu⟩ : ∃ u, u = t / 2 := ⟨_, rfl⟩
        have e2 : (t : Int) / 2 = (u : Int) := by omega
        have hut : u < t := by omega
        have hju : Hid (j + 1 + bitLen u = bl) := by
          show _ = _
          have := bitLen_half t g
          rw [hu, ← ht.out, this]; omega
        have hj32 : j + 1 ≤ 32 := by have := hju.out; omega
        clear hu
        go_wp2
        go_round
        case rel => exact ⟨j + 1, u, by go_num, rfl, by omega, hju, by omega⟩
        case measure => simp [intOf]; omega
      · obtain rfl : t = 0 := by omega
        have hjb : Hid (j = bl) := by
          show _ = _
          have := ht.out
          rw [bitLen_zero] at this
          exact this
        go_wp2
        go_ret
        refine ⟨ret1 ?_, rfl⟩
        rw [HB.out, ← hjb.out]
        omega

theorem replicate_set_last (q y : Nat) : (List.replicate (q + 1) 0).set q y = List.replicate q 0 ++ [y] := by
  rw [List.replicate_succ', List.set_append_right _ _ (by simp)]
  simp

theorem dig_two (q k : Nat) (hk : k < 32) : dig 4294967296 (2 ^ (32 * q + k)) = List.replicate q 0 ++ [2 ^ k] := by
  have h2 : 2 ^ k < 4294967296 := Nat.lt_of_lt_of_le (Nat.pow_lt_pow_right (by omega) hk) (Nat.le_refl (2 ^ 32))
  have hd : Dg 4294967296 (List.replicate q 0 ++ [2 ^ k]) := (Dg.replicate (by omega) q).snoc h2
  have hv : val 4294967296 (List.replicate q 0 ++ [2 ^ k]) = 2 ^ (32 * q + k) := by
    rw [val_snoc, val_replicate, List.length_replicate, pow_V, ← Nat.pow_add, Nat.zero_add]
  rw [← hv]
  refine dig_eq_self _ (by omega) hd (.inr ⟨by simp, ?_⟩)
  simp

end Go.Proofs.YtaeamlldocbeeaaDoor

/- baileyref1: FromBytes, Bytes. -/

namespace Go.Proofs.YtaeamlldocbeeaaDoor
open Go.RowKit Num

set_option maxHeartbeats 400000 in
theorem rfrombytes_any {a1 : Option Addr} {n c1 : Nat} {bs : List Nat} {w : World} (h1 : Sl .u8 w a1 n c1 bs) (hd1 : Dg 256 bs) (hn1 : n ≤ 1099511627776) :
    Calls Tryd.prog 31 #[.slice a1 n c1] w (GivesR w (be bs)) := by
  obtain ⟨N, hN⟩ : ∃ N, N = (n + 3) / 4 := ⟨_, rfl⟩
  have e3 : ((n : Int) + 3) / 4 = (N : Int) := by omega
  have hN8 : n ≤ 4 * N ∧ N ≤ n := by omega
  clear hN
  have hl := mkHid h1.len
  go_enter Tryd.func31, Tryd.ntmps31
  go_wp2_with (first
    | (at_make; refine wpList_mk rfl _ _ _ rfl 47 .u64 8 under_ref info_u64 N rfl rfl (by omega) (by omega) (by omega) (by omega) ?_; intro b w2 hB hblk hbel))
  go_loopw [4] (fun iv wr => ∃ (i : Nat) (zs : List Nat), i ≤ n ∧ iv = .int .i64 i ∧ Hid (zs.length = N) ∧ Dg 4294967296 zs ∧
      Hid (val 4294967296 zs = be (bs.take i) * 256 ^ (n - i)) ∧ Blk wr b .u64 47 zs ∧ Below w.heap.size w wr) (fun iv _ => n - (intOf iv).toNat)
  case atStart =>
    refine ⟨0, _, Nat.zero_le _, rfl, ?_, Dg.replicate (by omega) _, ?_, hblk, hbel⟩
    · show _ = _
      simp
    · show _ = _
      rw [val_replicate, List.take_zero]
      simp [be, val]
  case round =>
    clear hblk hbel
    obtain ⟨i, zs, hi, rfl, hz, dz, hv, hblk, hbel⟩ := hrel
    by_cases hlt : i < n
    · obtain ⟨b1, o1, c, rfl, hcx, hc⟩ := (h1.keep hbel).get i hlt
      have hc8 : c < 256 := by obtain ⟨h, e⟩ := hc.out; rw [← e]; exact hd1.at i h
      obtain ⟨k, hk⟩ : ∃ k, k + 1 + i = n := ⟨n - 1 - i, by omega⟩
      obtain ⟨p, hp⟩ : ∃ p, p = k / 4 := ⟨_, rfl⟩
      obtain ⟨r, hr⟩ : ∃ r, r = k % 4 := ⟨_, rfl⟩
      have e4 : (n : Int) - 1 - (i : Int) = (k : Int) := by omega
      have e5 : (k : Int) / 4 = (p : Int) := by omega
      have e6 : (k : Int) % 4 = (r : Int) := by omega
      have hr8 : r < 4 := by omega
      have hpN : p < N := by omega
      have hk9 : k < 1099511627776 := by omega
      have HK := mkHid hk
      have HP : Hid (k = 4 * p + r) := by show _ = _; omega
      clear hk hp hr
      obtain ⟨o, hco, hfo, ho⟩ := hblk.get p (by rw [hz.out]; exact hpN)
      obtain ⟨y, hy⟩ : ∃ y, y = c * 2 ^ (r * 8) := ⟨_, rfl⟩
      obtain ⟨v, hvv⟩ : ∃ v, v = o + y := ⟨_, rfl⟩
      obtain ⟨hop, hoz⟩ := ho.out
      obtain ⟨_, f2, f3⟩ := fb_stepV zs _ c n i k p r o HK.out HP.out hr8 hc8 hop hoz dz hv.out
      rw [← hy, ← hvv] at f2 f3
      have hoV : o < 4294967296 := by rw [← hoz]; exact dz.at _ hop
      have hyV : y < 4294967296 := by omega
      have e7 : IntKind.u64.wrap ((c : Int) * 2 ^ (8 * r)) = (y : Int) := by
        rw [IntKind.wrap_u64, Nat.mul_comm 8, ← show ((c * 2 ^ (r * 8) : Nat) : Int) = (c : Int) * 2 ^ (r * 8) by rw [Int.natCast_mul, Int.natCast_pow]; rfl, ← hy]
        omega
      have e8 : (o : Int) + (y : Int) = (v : Int) := by omega
      have F3 := mkHid f3
      have HY := mkHid hy
      clear hvv f3 hop hoz hy
      go_wp2
      go_region
      go_wp2
      go_roundw
      case rel =>
        refine ⟨i + 1, zs.set p v, by omega, by go_num, ?_, dz.set _ _ f2, ?_, ?_, (hbel.setCell hB _).drew⟩
        · show _ = _
          rw [List.length_set]; exact hz.out
        · show _ = _
          obtain ⟨h, e⟩ := hc.out
          rw [F3.out, be_take_succ _ _ h, e]
        · exact hblk.set p v
      case measure => simp [intOf]; omega
    · obtain rfl : i = n := by omega
      have hval : Hid (val 4294967296 zs = be bs) := by
        show _ = _
        rw [hv.out, List.take_of_length_le (by rw [hl.out]; omega), Nat.sub_self, Nat.pow_zero, Nat.mul_one]
      go_wp2_with (go_at_call 27; (with_reducible refine (rtrim_blk hblk hz.out (by omega) dz hB).mono ?_); rintro e w' ⟨m', rfl, hm', ho, rfl⟩)
      go_ret
      exact ⟨_, _, _, rfl, by rw [← hval.out]; exact ho, hbel⟩

end Go.Proofs.YtaeamlldocbeeaaDoor
