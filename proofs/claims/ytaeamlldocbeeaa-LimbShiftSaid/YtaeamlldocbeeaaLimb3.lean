/- limb: Add, Sub. -/
import Derived.Test.YtaeamlldocbeeaaLimb2
namespace Go.Proofs.Ytaeamlldocbeeaa
open Go.RowKit Num

theorem add_any {a1 a2 : Option Addr} {n1 c1 n2 c2 : Nat} {xs ys : List Nat} {w : World} (h1 : Sl .u64 w a1 n1 c1 xs) (h2 : Sl .u64 w a2 n2 c2 ys) (hd1 : Dg 18446744073709551616 xs) (hd2 : Dg 18446744073709551616 ys)
    (hn1 : n1 ≤ 1099511627776) (hn2 : n2 ≤ 1099511627776) :
    Calls Try.prog 35 #[.slice a1 n1 c1, .slice a2 n2 c2] w (Gives .u64 54 w (dig 18446744073709551616 (val 18446744073709551616 xs + val 18446744073709551616 ys))) := by
  go_enter Try.func35, Try.ntmps35
  go_upto_if 17 with (first
    | (go_at_call 59; (with_reducible refine (trim_sl h1 hd1).mono ?_); rintro e w' ⟨m1, rfl, hm1, hs1, rfl⟩)
    | (go_at_call 59; (with_reducible refine (trim_sl h2 hd2).mono ?_); rintro e w' ⟨m2, rfl, hm2, hs2, rfl⟩))
  go_cut [0, 1] (fun v0 v1 wc => ∃ p1 k1 d1 X p2 k2 d2 Y, v0 = .slice p1 k1 d1 ∧ v1 = .slice p2 k2 d2 ∧ Sl .u64 w p1 k1 d1 X ∧ Sl .u64 w p2 k2 d2 Y ∧ Dg 18446744073709551616 X ∧ Dg 18446744073709551616 Y ∧
    Hid (val 18446744073709551616 X + val 18446744073709551616 Y = val 18446744073709551616 xs + val 18446744073709551616 ys) ∧ k2 ≤ k1 ∧ k1 ≤ 1099511627776 ∧ w = wc)
  case first =>
    by_cases hlt : m1 < m2
    · go_wp2
      go_meet
      case rel => exact ⟨_, _, _, _, _, _, _, _, rfl, rfl, hs2, hs1, Dg.dig _ (by omega) _, Dg.dig _ (by omega) _, by show _ = _; rw [val_dig _ (by omega), val_dig _ (by omega)]; omega, by omega, by omega, rfl⟩
    · go_wp2
      go_meet
      case rel => exact ⟨_, _, _, _, _, _, _, _, rfl, rfl, hs1, hs2, Dg.dig _ (by omega) _, Dg.dig _ (by omega) _, by show _ = _; rw [val_dig _ (by omega), val_dig _ (by omega)], by omega, by omega, rfl⟩
  case rest =>
    obtain ⟨p1, k1, d1, X, p2, k2, d2, Y, rfl, rfl, hX, hY, dX, dY, hS, hk, hk1, rfl⟩ := hcut
    clear h1 h2 hs1 hs2 hd1 hd2
    go_wp2_with (at_make; refine wpList_mk rfl _ _ _ rfl 54 .u64 8 under_nat info_u64 (k1 + 1) rfl rfl (by omega) (by omega) (by omega) (by omega) ?_; intro b w1 hB hblk hbel)
    go_loopw [6, 26] (fun cv iv wr => ∃ (i c : Nat) (zs : List Nat), i ≤ k1 ∧ c ≤ 1 ∧ cv = .int .u64 c ∧ iv = .int .i64 i ∧ Hid (zs.length = i) ∧ Dg 18446744073709551616 zs ∧
      Hid (val 18446744073709551616 zs + 18446744073709551616 ^ i * c = val 18446744073709551616 (X.take i) + val 18446744073709551616 (Y.take i)) ∧ Blk wr b .u64 54 (zs ++ List.replicate (k1 + 1 - i) 0) ∧ Below w.heap.size w wr) (fun _ iv _ => k1 - (intOf iv).toNat)
    case atStart => exact ⟨0, 0, [], Nat.zero_le _, Nat.zero_le _, rfl, rfl, rfl, Dg.nil, rfl, by simpa using hblk, hbel⟩
    case round =>
      obtain ⟨i, c, zs, hi, hc, rfl, rfl, hz, dz, hv, hblk, hbel⟩ := hrel
      by_cases hlt : i < k1
      · obtain ⟨b1, o1, x, rfl, hcx, hx⟩ := (hX.keep hbel).get i hlt
        obtain ⟨z0, hcb, hfb, _⟩ := hblk.get i (by rw [length_grow zs i (k1 + 1) 0 hz.out (by omega)]; omega)
        have hxW : x < 18446744073709551616 := by obtain ⟨h, e⟩ := hx.out; rw [← e]; exact dX.at i h
        by_cases hy : i < k2
        · obtain ⟨b2, o2, y, rfl, hcy, hy'⟩ := (hY.keep hbel).get i hy
          have hyW : y < 18446744073709551616 := by obtain ⟨h, e⟩ := hy'.out; rw [← e]; exact dY.at i h
          obtain ⟨s, hs⟩ : ∃ s, s = (x + y + c) % 18446744073709551616 := ⟨_, rfl⟩
          obtain ⟨k, hk'⟩ : ∃ k, k = (x + y + c) / 18446744073709551616 := ⟨_, rfl⟩
          have ha := add64_run x y c hxW hyW hc s k hs hk'
          have HS := mkHid hs
          have HK := mkHid hk'
          clear hs hk'
          go_wp2
          go_roundw
          case rel =>
            refine ⟨i + 1, k, zs ++ [s], by omega, by have := HK.out; omega, rfl, by go_num, ?_, dz.snoc (by rw [HS.out]; exact Nat.mod_lt _ (by omega)), ?_, ?_, hbel.setCell hB _⟩
            · show _ = _
              rw [List.length_append, hz.out]; rfl
            · show _ = _
              obtain ⟨h, e⟩ := hx.out
              obtain ⟨h2, e2⟩ := hy'.out
              rw [val_snoc, hz.out, val_take_succ _ _ _ h, val_take_succ _ _ _ h2, e, e2, Nat.pow_succ]
              exact add_step _ _ _ _ _ _ _ _ _ _ hv.out HS.out HK.out
            · have := hblk.set i s
              rwa [set_grow zs i _ s 0 hz.out (by omega)] at this
          case measure => simp [intOf]; omega
        · have hyl : Y.length ≤ i := by rw [hY.len]; omega
          have HYL := mkHid hyl
          clear hyl
          obtain ⟨s, hs⟩ : ∃ s, s = (x + 0 + c) % 18446744073709551616 := ⟨_, rfl⟩
          obtain ⟨k, hk'⟩ : ∃ k, k = (x + 0 + c) / 18446744073709551616 := ⟨_, rfl⟩
          have ha := add64_run0 x c hxW hc s k hs hk'
          have HS := mkHid hs
          have HK := mkHid hk'
          clear hs hk'
          go_wp2
          go_roundw
          case rel =>
            refine ⟨i + 1, k, zs ++ [s], by omega, by have := HK.out; omega, rfl, by go_num, ?_, dz.snoc (by rw [HS.out]; exact Nat.mod_lt _ (by omega)), ?_, ?_, hbel.setCell hB _⟩
            · show _ = _
              rw [List.length_append, hz.out]; rfl
            · show _ = _
              obtain ⟨h, e⟩ := hx.out
              have e2 := val_take_getD 18446744073709551616 Y i
              rw [show Y.getD i 0 = 0 by simp [List.getD, HYL.out]] at e2
              rw [val_snoc, hz.out, val_take_succ _ _ _ h, e, e2, Nat.pow_succ]
              exact add_step _ _ _ _ _ _ _ _ _ _ hv.out HS.out HK.out
            · have := hblk.set i s
              rwa [set_grow zs i _ s 0 hz.out (by omega)] at this
          case measure => simp [intOf]; omega
      · obtain rfl : i = k1 := by omega
        obtain ⟨z0, hcb, hfb, _⟩ := hblk.get i (by rw [length_grow zs i (i + 1) 0 hz.out (by omega)]; omega)
        have hfin : Blk (wr.setCell ⟨b, i, none⟩ (.int .u64 (c : Int))) b .u64 54 (zs ++ [c]) := by
          have := hblk.set i c
          rw [set_grow zs i _ c 0 hz.out (by omega), Nat.sub_self, List.replicate_zero, List.append_nil] at this
          exact this
        have hown := Own.ofBlk hfin hB (i + 1) (by rw [List.length_append, hz.out]; rfl) (by omega)
        have dfin : Dg 18446744073709551616 (zs ++ [c]) := dz.snoc (by omega)
        have hval : Hid (val 18446744073709551616 (zs ++ [c]) = val 18446744073709551616 xs + val 18446744073709551616 ys) := by
          show _ = _
          have e1 := hv.out
          rw [List.take_of_length_le (by rw [hX.len]; omega), List.take_of_length_le (by rw [hY.len]; omega)] at e1
          rw [val_snoc, hz.out, e1]; exact hS.out
        have hbf := hbel.setCell (p := ⟨b, i, none⟩) hB (.int .u64 (c : Int))
        clear hblk hv hfin
        go_wp2_with (go_at_call 59; (with_reducible refine (trim_own hown dfin).mono ?_); rintro e w' ⟨m, rfl, hm, ho, rfl⟩)
        go_ret
        exact ⟨_, _, _, rfl, by rw [← hval.out]; exact ho, hbf⟩

theorem sub_any {a1 a2 : Option Addr} {n1 c1 n2 c2 : Nat} {xs ys : List Nat} {w : World} (h1 : Sl .u64 w a1 n1 c1 xs) (h2 : Sl .u64 w a2 n2 c2 ys) (hd1 : Dg 18446744073709551616 xs) (hd2 : Dg 18446744073709551616 ys)
    (hn1 : n1 ≤ 1099511627776) (_hn2 : n2 ≤ 1099511627776) :
    Calls Try.prog 38 #[.slice a1 n1 c1, .slice a2 n2 c2] w (GivesB .u64 54 w (decide (val 18446744073709551616 ys ≤ val 18446744073709551616 xs)) (dig 18446744073709551616 (val 18446744073709551616 xs - val 18446744073709551616 ys))) := by
  go_enter Try.func38, Try.ntmps38
  go_upto_if 17 with (first
    | (go_at_call 59; (with_reducible refine (trim_sl h1 hd1).mono ?_); rintro e w' ⟨k1, rfl, hm1, hX, rfl⟩)
    | (go_at_call 59; (with_reducible refine (trim_sl h2 hd2).mono ?_); rintro e w' ⟨k2, rfl, hm2, hY, rfl⟩)
    | (go_at_call 36; (with_reducible refine (cmp_any hX hY (Dg.dig _ (by omega) _) (Dg.dig _ (by omega) _) (by omega)).mono ?_); rintro e w1 ⟨rfl, hb1⟩))
  rw [val_dig _ (by omega), val_dig _ (by omega)]
  by_cases hvv : val 18446744073709551616 xs < val 18446744073709551616 ys
  · have hc : decide (cmpI (val 18446744073709551616 xs) (val 18446744073709551616 ys) < 0) = true := by
      unfold cmpI; rw [if_pos hvv]; decide
    rw [hc]
    clear hc
    go_wp2
    go_ret2
    refine ⟨none, 0, 0, ?_, ?_, hb1⟩
    · rw [decide_eq_false (by omega)]; rfl
    · rw [show val 18446744073709551616 xs - val 18446744073709551616 ys = 0 by omega]
      exact Own.nilOwn _ _ _ _
  · have hc : decide (cmpI (val 18446744073709551616 xs) (val 18446744073709551616 ys) < 0) = false := by
      unfold cmpI; rw [if_neg hvv]; split <;> decide
    rw [hc]
    clear hc
    have hk21 : k2 ≤ k1 := by
      rw [← hX.len, ← hY.len]
      exact dig_length_mono _ (by omega) (by omega)
    have vX := mkHid (val_dig 18446744073709551616 (by omega) (val 18446744073709551616 xs))
    have vY := mkHid (val_dig 18446744073709551616 (by omega) (val 18446744073709551616 ys))
    have dX := Dg.dig 18446744073709551616 (by omega) (val 18446744073709551616 xs)
    have dY := Dg.dig 18446744073709551616 (by omega) (val 18446744073709551616 ys)
    have hX := hX.keep hb1
    have hY := hY.keep hb1
    generalize dig 18446744073709551616 (val 18446744073709551616 xs) = X at *
    generalize dig 18446744073709551616 (val 18446744073709551616 ys) = Y at *
    clear h1 h2 hd1 hd2
    go_wp2_with (at_make; refine wpList_mk rfl _ _ _ rfl 54 .u64 8 under_nat info_u64 k1 rfl rfl (by omega) (by omega) (by omega) (by omega) ?_; intro b w2 hB hblk hbel)
    go_loopw [7, 23] (fun cv iv wr => ∃ (i c : Nat) (zs : List Nat), i ≤ k1 ∧ c ≤ 1 ∧ cv = .int .u64 c ∧ iv = .int .i64 i ∧ Hid (zs.length = i) ∧ Dg 18446744073709551616 zs ∧
      Hid (val 18446744073709551616 zs + val 18446744073709551616 (Y.take i) = val 18446744073709551616 (X.take i) + 18446744073709551616 ^ i * c) ∧ Blk wr b .u64 54 (zs ++ List.replicate (k1 - i) 0) ∧ Below w1.heap.size w1 wr) (fun _ iv _ => k1 - (intOf iv).toNat)
    case atStart => exact ⟨0, 0, [], Nat.zero_le _, Nat.zero_le _, rfl, rfl, rfl, Dg.nil, rfl, by simpa using hblk, hbel⟩
    case round =>
      obtain ⟨i, c, zs, hi, hc, rfl, rfl, hz, dz, hv, hblk, hbel⟩ := hrel
      by_cases hlt : i < k1
      · obtain ⟨b1, o1, x, rfl, hcx, hx⟩ := (hX.keep hbel).get i hlt
        obtain ⟨z0, hcb, hfb, _⟩ := hblk.get i (by rw [length_grow zs i k1 0 hz.out (by omega)]; omega)
        have hxW : x < 18446744073709551616 := by obtain ⟨h, e⟩ := hx.out; rw [← e]; exact dX.at i h
        by_cases hy : i < k2
        · obtain ⟨b2, o2, y, rfl, hcy, hy'⟩ := (hY.keep hbel).get i hy
          have hyW : y < 18446744073709551616 := by obtain ⟨h, e⟩ := hy'.out; rw [← e]; exact dY.at i h
          obtain ⟨s, hs⟩ : ∃ s, s = (x + 18446744073709551616 - y - c) % 18446744073709551616 := ⟨_, rfl⟩
          obtain ⟨k, hk'⟩ : ∃ k, k = if x < y + c then 1 else 0 := ⟨_, rfl⟩
          have ha := sub64_run x y c hxW hyW hc s k hs hk'
          have hkl : k ≤ 1 := by rw [hk']; split <;> omega
          have HS := mkHid hs
          have HK := mkHid hk'
          clear hs hk'
          go_wp2
          go_roundw
          case rel =>
            refine ⟨i + 1, k, zs ++ [s], by omega, hkl, rfl, by go_num, ?_, dz.snoc (by rw [HS.out]; exact Nat.mod_lt _ (by omega)), ?_, ?_, hbel.setCell hB _⟩
            · show _ = _
              rw [List.length_append, hz.out]; rfl
            · show _ = _
              obtain ⟨h, e⟩ := hx.out
              obtain ⟨h2, e2⟩ := hy'.out
              rw [val_snoc, hz.out, val_take_succ _ _ _ h, val_take_succ _ _ _ h2, e, e2, Nat.pow_succ]
              exact sub_step _ _ _ _ _ _ _ _ _ _ hv.out hxW hyW hc HS.out HK.out
            · have := hblk.set i s
              rwa [set_grow zs i _ s 0 hz.out (by omega)] at this
          case measure => simp [intOf]; omega
        · have hyl : Y.length ≤ i := by rw [hY.len]; omega
          have HYL := mkHid hyl
          clear hyl
          obtain ⟨s, hs⟩ : ∃ s, s = (x + 18446744073709551616 - 0 - c) % 18446744073709551616 := ⟨_, rfl⟩
          obtain ⟨k, hk'⟩ : ∃ k, k = if x < 0 + c then 1 else 0 := ⟨_, rfl⟩
          have ha := sub64_run0 x c hxW hc s k hs hk'
          have hkl : k ≤ 1 := by rw [hk']; split <;> omega
          have HS := mkHid hs
          have HK := mkHid hk'
          clear hs hk'
          go_wp2
          go_roundw
          case rel =>
            refine ⟨i + 1, k, zs ++ [s], by omega, hkl, rfl, by go_num, ?_, dz.snoc (by rw [HS.out]; exact Nat.mod_lt _ (by omega)), ?_, ?_, hbel.setCell hB _⟩
            · show _ = _
              rw [List.length_append, hz.out]; rfl
            · show _ = _
              obtain ⟨h, e⟩ := hx.out
              have e2 := val_take_getD 18446744073709551616 Y i
              rw [show Y.getD i 0 = 0 by simp [List.getD, HYL.out]] at e2
              rw [val_snoc, hz.out, val_take_succ _ _ _ h, e, e2, Nat.pow_succ]
              exact sub_step _ _ _ _ _ _ _ _ _ _ hv.out hxW (by omega) hc HS.out HK.out
            · have := hblk.set i s
              rwa [set_grow zs i _ s 0 hz.out (by omega)] at this
          case measure => simp [intOf]; omega
      · obtain rfl : i = k1 := by omega
        rw [Nat.sub_self, List.replicate_zero, List.append_nil] at hblk
        have hown := Own.ofBlk hblk hB i hz.out (by omega)
        have hval : Hid (val 18446744073709551616 zs = val 18446744073709551616 xs - val 18446744073709551616 ys) := by
          show _ = _
          have e1 := hv.out
          rw [List.take_of_length_le (l := Y) (by rw [hY.len]; omega), List.take_of_length_le (l := X) (by rw [hX.len]; omega), vX.out, vY.out] at e1
          have e2 := val_lt dz
          rw [hz.out] at e2
          have : c = 0 := by
            rcases Nat.eq_zero_or_pos c with h | h
            · exact h
            · obtain rfl : c = 1 := by omega
              omega
          subst this
          omega
        clear hblk hv
        go_wp2_with (go_at_call 59; (with_reducible refine (trim_own hown dz).mono ?_); rintro e w' ⟨m, rfl, hm, ho, rfl⟩)
        go_ret2
        refine ⟨some ⟨b, 0, none⟩, m, i, ?_, ?_, hb1.trans (hbel.mono hb1.size)⟩
        · rw [decide_eq_true (by omega)]; rfl
        · rw [← hval.out]; exact ho.mono hb1.size

end Go.Proofs.Ytaeamlldocbeeaa
