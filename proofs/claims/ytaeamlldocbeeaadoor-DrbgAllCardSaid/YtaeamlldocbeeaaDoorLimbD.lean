/- LimbD: Limb11, Limb12. -/
import Derived.Test.YtaeamlldocbeeaaDoorLimbC

/- limb: Quo by more than one limb. -/

namespace Go.Proofs.YtaeamlldocbeeaaDoor
open Go.RowKit Num

set_option maxHeartbeats 1000000 in
set_option maxRecDepth 20000 in
theorem quo_big {a1 a2 : Option Addr} {n1 c1 n2 c2 : Nat} {xs ys : List Nat} {w : World} (h1 : Sl .u64 w a1 n1 c1 xs) (h2 : Sl .u64 w a2 n2 c2 ys) (hd1 : Dg 18446744073709551616 xs) (hd2 : Dg 18446744073709551616 ys)
    (hn1 : n1 ≤ 1048576) (hv : val 18446744073709551616 ys ≤ val 18446744073709551616 xs) (hW : 18446744073709551616 ≤ val 18446744073709551616 ys) :
    Calls Tryd.prog 25 #[.slice a1 n1 c1, .slice a2 n2 c2] w (GivesQ w (dig 18446744073709551616 (val 18446744073709551616 xs / val 18446744073709551616 ys)) (dig 18446744073709551616 (val 18446744073709551616 xs % val 18446744073709551616 ys)) true) := by
  go_enter Tryd.func25, Tryd.ntmps25
  go_upto_if 22 with (first
    | (go_at_call 38; (with_reducible refine (trim_sl h1 hd1).mono ?_); rintro e w' ⟨k1, rfl, hm1, hX, rfl⟩)
    | (go_at_call 38; (with_reducible refine (trim_sl h2 hd2).mono ?_); rintro e w' ⟨n, rfl, hm2, hY, rfl⟩))
  have hn2' : 2 ≤ n := by
    rw [← hY.len]
    exact (lt_dig_length _ (by omega) 1 _).2 (by rw [Nat.pow_one]; exact hW)
  have hnk : n ≤ k1 := by
    rw [← hX.len, ← hY.len]
    exact dig_length_mono _ (by omega) hv
  have t1 : ((n : Int) == 0) = false := beq_f (n := 0) (by omega)
  have t3 : ((n : Int) == 1) = false := beq_f (n := 1) (by omega)
  have t2 : Hid (decide (cmpI (val 18446744073709551616 xs) (val 18446744073709551616 ys) < 0) = false) := by show _ = _; rw [cmp_less]; exact decide_eq_false (by omega)
  have dX := Dg.dig 18446744073709551616 (by omega) (val 18446744073709551616 xs)
  have dY := Dg.dig 18446744073709551616 (by omega) (val 18446744073709551616 ys)
  have vX := mkHid (val_dig 18446744073709551616 (by omega) (val 18446744073709551616 xs))
  have vY := mkHid (val_dig 18446744073709551616 (by omega) (val 18446744073709551616 ys))
  go_upto_if 26 with (first
    | (go_at_call 40; (with_reducible refine (cmp_any hX hY dX dY (by omega)).mono ?_); rintro e w1 ⟨rfl, hb1⟩))
  rw [vX.out, vY.out, t2.out]
  -- the highest limb of the divisor, and how far to move
  obtain ⟨b2, o2, y, rfl, hcy, hy⟩ := (hY.keep hb1).get (n - 1) (by omega)
  have hyW : y < 18446744073709551616 := by obtain ⟨h, e⟩ := hy.out; rw [← e]; exact dY.at _ h
  have hy0 : y ≠ 0 := by
    obtain ⟨h, e⟩ := hy.out
    have := dig_last 18446744073709551616 (by omega) (val 18446744073709551616 ys) (by rw [hY.len]; omega)
    simp only [hY.len] at this
    rw [e] at this
    exact this
  obtain ⟨m1, hm1'⟩ : ∃ m, m = n - 1 := ⟨_, rfl⟩
  rw [← hm1'] at hcy hy
  have e1 : (n : Int) - 1 = (m1 : Int) := by omega
  obtain ⟨s, hs⟩ : ∃ s, s = 64 - bitLen y := ⟨_, rfl⟩
  have hlz := mkHid (fun w => lz64_any y hyW w)
  rw [← hs] at hlz
  have hs64 : s ≤ 64 := by omega
  have hM1 := mkHid hm1'
  have HS := mkHid hs
  clear hm1' hs
  have hsh1 := shl_yes (hX.keep hb1) dX (by omega) s (by omega) (by rw [vX.out]; omega)
  rw [vX.out] at hsh1
  have hlenR : (dig 18446744073709551616 (val 18446744073709551616 xs * 2 ^ s)).length ≤ k1 + 1 ∧ k1 ≤ (dig 18446744073709551616 (val 18446744073709551616 xs * 2 ^ s)).length := by
    constructor
    · rw [dig_length_le _ (by omega), Nat.pow_succ]
      have e3 := (dig_length_le 18446744073709551616 (by omega) k1 (val 18446744073709551616 xs)).1 (by rw [hX.len]; exact Nat.le_refl _)
      have e4 : 2 ^ s ≤ 2 ^ 64 := Nat.pow_le_pow_right (by omega) hs64
      exact Nat.lt_of_lt_of_le (Nat.mul_lt_mul_of_pos_right e3 (Nat.two_pow_pos s)) (Nat.mul_le_mul_left _ e4)
    · have := dig_length_mono 18446744073709551616 (by omega) (m := val 18446744073709551616 xs) (n := val 18446744073709551616 xs * 2 ^ s) (Nat.le_mul_of_pos_right _ (Nat.two_pow_pos s))
      rw [hX.len] at this
      exact this
  have vR := mkHid (val_dig 18446744073709551616 (by omega) (val 18446744073709551616 xs * 2 ^ s))
  have dR := Dg.dig 18446744073709551616 (by omega) (val 18446744073709551616 xs * 2 ^ s)
  generalize dig 18446744073709551616 (val 18446744073709551616 xs * 2 ^ s) = R at *
  have hsh1' := mkHid hsh1
  clear hsh1
  have HLR := mkHid hlenR
  clear hlenR
  go_upto_region 11 with (first
    | (go_at_call 44; refine (hlz.out _).mono ?_; rintro e w' ⟨rfl, rfl⟩)
    | (go_at_call 45; (with_reducible refine hsh1'.out.mono ?_); rintro e w2 ⟨a3, n3, c3, rfl, ho3, hb2⟩; have hn3 : n3 ≤ k1 + 1 ∧ k1 ≤ n3 := (by rw [← ho3.len]; exact HLR.out))
    | (at_builtin; refine wpList_app rfl (.tmp 59) (.tmp 60) 31 rfl 47 .u64 8 under_nat info_u64 w1.heap.size _ _ _ _ rfl (ho3.keep (below_alloc _ (Nat.le_refl _))) _ _ _ [0] rfl ((Blk.new0 w2 _).sl 1 rfl (by omega)) (by omega) (by omega) (by rw [World.size_alloc]; have := hb2.size; omega) ?_; intro ar cr w3 hor hb3))
  -- the row of the dividend
  have hb13 : Below w1.heap.size w1 w3 := (hb2.alloc hb2.size _).trans hb3
  obtain ⟨br, tlr, rfl, hBr, hcr, hcm, hpr⟩ := hor.pre (by have := hor.sl.le; omega)
  have t4 : decide (n3 < k1) = false := decide_eq_false (by omega)
  refine wp_loop_once ?_
  -- the divisor
  have hsh2 := shl_yes ((hY.keep hb1).keep hb13) dY (by omega) s (by omega) (by rw [vY.out]; omega)
  rw [vY.out] at hsh2
  have hvd : val 18446744073709551616 ys * 2 ^ s < 18446744073709551616 ^ n := by
    obtain ⟨h, e⟩ := hy.out
    have hb := bitLen_digits dY (k := m1) (by rw [hY.len, hM1.out]; omega) (by rw [e]; exact hy0)
    rw [vY.out, e] at hb
    have h5 := (bitLen_le (val 18446744073709551616 ys) _).1 (Nat.le_refl _)
    rw [hb] at h5
    have h6 := (bitLen_le y 64).2 hyW
    have h7 := Nat.mul_lt_mul_of_pos_right h5 (Nat.two_pow_pos s)
    rw [← Nat.pow_add, show 64 * m1 + bitLen y + s = 64 * n by rw [HS.out, hM1.out]; omega, ← pow_W] at h7
    exact h7
  have hlenD : (dig 18446744073709551616 (val 18446744073709551616 ys * 2 ^ s)).length = n := by
    apply Nat.le_antisymm
    · rw [dig_length_le _ (by omega)]; exact hvd
    · have := dig_length_mono 18446744073709551616 (by omega) (m := val 18446744073709551616 ys) (n := val 18446744073709551616 ys * 2 ^ s) (Nat.le_mul_of_pos_right _ (Nat.two_pow_pos s))
      rw [hY.len] at this
      exact this
  have HLD : ∃ h : n - 1 < (dig 18446744073709551616 (val 18446744073709551616 ys * 2 ^ s)).length, (dig 18446744073709551616 (val 18446744073709551616 ys * 2 ^ s))[n - 1] ≠ 0 := by
    have := dig_last 18446744073709551616 (by omega) (val 18446744073709551616 ys * 2 ^ s) (by rw [hlenD]; omega)
    refine ⟨by rw [hlenD]; omega, ?_⟩
    simp only [hlenD] at this
    exact this
  have hD0 : 0 < val 18446744073709551616 ys * 2 ^ s := Nat.mul_pos (by omega) (Nat.two_pow_pos s)
  have vD := mkHid (val_dig 18446744073709551616 (by omega) (val 18446744073709551616 ys * 2 ^ s))
  have dD := Dg.dig 18446744073709551616 (by omega) (val 18446744073709551616 ys * 2 ^ s)
  have HD : Hid ((dig 18446744073709551616 (val 18446744073709551616 ys * 2 ^ s)).length = n ∧ 0 < val 18446744073709551616 (dig 18446744073709551616 (val 18446744073709551616 ys * 2 ^ s)) ∧ val 18446744073709551616 (dig 18446744073709551616 (val 18446744073709551616 ys * 2 ^ s)) < 18446744073709551616 ^ n) := ⟨hlenD, by rw [vD.out]; exact hD0, by rw [vD.out]; exact hvd⟩
  have HLD' := mkHid HLD
  clear HLD
  clear hlenD hvd hD0
  generalize dig 18446744073709551616 (val 18446744073709551616 ys * 2 ^ s) = D at *
  have hsh2' := mkHid hsh2
  clear hsh2
  obtain ⟨N, hN⟩ : ∃ N, N = n3 + 1 - n := ⟨_, rfl⟩
  have e2 : (n3 : Int) + 1 - (n : Int) = (N : Int) := by omega
  have hNn : N + n = n3 + 1 := by omega
  have HN := mkHid hNn
  have hN1 : 1 ≤ N ∧ N ≤ n3 + 1 := by omega
  clear hN hNn
  go_upto_block 3 with (first
    | (go_at_call 45; (with_reducible refine hsh2'.out.mono ?_); rintro e w4 ⟨ad, nd, cd, rfl, ho4, hb4⟩)
    | (at_make; refine wpList_mk rfl _ _ _ rfl 47 .u64 8 under_nat info_u64 N rfl rfl (by omega) (by omega) (by omega) (by omega) ?_; intro bq w5 hBq hblk hb5))
  -- where all lies
  obtain ⟨hndl, hndD⟩ : nd = n ∧ nd ≤ cd := ⟨by rw [← ho4.len]; exact HD.out.1, ho4.sl.le⟩
  subst hndl
  obtain ⟨bd, tld, rfl, hBd, hcd, hcdm, hpd⟩ := ho4.pre (by omega)
  have hpr5 := (hpr.keep hb4).keep hb5
  have hpd5 := hpd.keep hb5
  have hbr3 : br < w3.heap.size := Row.lt hpr
  have hbd4 : bd < w4.heap.size := Row.lt hpd
  have hs13 := hb13.size
  have hs34 := hb4.size
  have hb15 : Below w1.heap.size w1 w5 := (hb13.trans (hb4.mono hs13)).trans (hb5.mono (by omega))
  have hne1 : br ≠ bd := by omega
  have hne2 : br ≠ bq := by omega
  have hne3 : bd ≠ bq := by omega
  have hBq1 : w1.heap.size ≤ bq := by omega
  have hcrn : Hid (n3 + 1 ≤ cr) := by show _ ≤ _; omega
  have hlR : Hid ((R ++ [0]).length = n3 + 1) := hor.len
  have dR0 : Dg 18446744073709551616 (R ++ [0]) := dR.snoc (by omega)
  have hRend : Hid (val 18446744073709551616 ((R ++ [0]).drop N) < val 18446744073709551616 D) := by
    show _ < _
    have hRl : R.length = n3 := by have := hlR.out; rw [List.length_append] at this; simpa using this
    have hNn := HN.out
    rw [List.drop_append_of_le_length (by omega), val_snoc, Nat.mul_zero, Nat.add_zero]
    have h1 := val_lt (dR.drop N)
    rw [List.length_drop, hRl, show n3 - N = nd - 1 by omega] at h1
    obtain ⟨h2, h3⟩ := HLD'.out
    have h4 := val_take_drop 18446744073709551616 D (nd - 1) (by omega)
    rw [val_drop _ _ _ h2] at h4
    have h5 : 18446744073709551616 ^ (nd - 1) * 1 ≤ 18446744073709551616 ^ (nd - 1) * (D[nd - 1] + 18446744073709551616 * val 18446744073709551616 (D.drop (nd - 1 + 1))) := Nat.mul_le_mul_left _ (by omega)
    omega
  clear hpr hpd hor ho4 hb4 hb5 hBd hbr3 hbd4 hs13 hs34
  go_wp2
  go_loopw [14] (fun iv wr => ∃ (j : Nat) (rs qs : List Nat), j ≤ N ∧ iv = .int .i64 ((j : Int) - 1) ∧ Hid (rs.length = n3 + 1) ∧ Dg 18446744073709551616 rs ∧ Hid (rs.take j = (R ++ [0]).take j) ∧
    Hid (val 18446744073709551616 (rs.drop j) < val 18446744073709551616 D) ∧ Hid (val 18446744073709551616 qs * val 18446744073709551616 D + val 18446744073709551616 (rs.drop j) = val 18446744073709551616 ((R ++ [0]).drop j)) ∧ Hid (j + qs.length = N) ∧ Dg 18446744073709551616 qs ∧
    Pre wr br .u64 47 rs tlr ∧ Pre wr bd .u64 47 D tld ∧ Blk wr bq .u64 47 (List.replicate j 0 ++ qs) ∧ Below w1.heap.size w1 wr) (fun iv _ => (intOf iv + 1).toNat)
  case atStart =>
    refine ⟨N, _, [], Nat.le_refl _, rfl, hlR, dR0, rfl, hRend, by show _ = _; simp [val], by show _ = _; simp, Dg.nil, hpr5, hpd5, by simpa using hblk, hb15⟩
  case round =>
    clear hpr5 hpd5 hblk hb15
    obtain ⟨j, rs, qs, hj, rfl, hrl, dr, hrt, hrd, hrv, hql, dq, hpr, hpd, hblk, hbel⟩ := hrel
    cases j with
    | zero =>
      rw [show ((0 : Nat) : Int) - 1 = -1 from rfl]
      rw [List.replicate_zero, List.nil_append] at hblk
      have hql' := hql.out
      rw [Nat.zero_add] at hql'
      have hownq := Own.ofBlk hblk hBq1 N hql' (by omega)
      have hownr := hpr.own hBr (n3 + 1) cr hrl.out hcr hcm
      have hend : Hid (val 18446744073709551616 qs = val 18446744073709551616 xs / val 18446744073709551616 ys ∧ val 18446744073709551616 rs / 2 ^ s = val 18446744073709551616 xs % val 18446744073709551616 ys) := by
        have e1 := hrv.out
        have e2 := hrd.out
        rw [List.drop_zero] at e1 e2
        rw [List.drop_zero, val_snoc, Nat.mul_zero, Nat.add_zero, vR.out, vD.out] at e1
        rw [vD.out] at e2
        exact quo_end _ _ _ _ _ e1 e2
      clear hql' hblk
      have hshr := shr_any hownr.sl dr (by omega) (s : Int) (by omega)
      rw [if_pos (by omega), Int.toNat_natCast, hend.out.2] at hshr
      have HSH := mkHid hshr
      clear hshr
      go_wp2_with (first
        | (go_at_call 38; (with_reducible refine (trim_own hownq dq).mono ?_); rintro e w6 ⟨m, rfl, hm, hoq, rfl⟩)
        | (go_at_call 49; (with_reducible refine HSH.out.mono ?_); rintro e w7 ⟨a5, n5, c5, rfl, ho5, hb7⟩))
      refine bodyPost_ret (v := .tuple #[.slice (some ⟨bq, 0, none⟩) m N, .slice a5 n5 c5, .bool true]) (by simp [results, Tryd.results25, go_sem]) rfl ?_
      have hs1 := hb1.size
      have hs2 := hbel.size
      rw [hend.out.1] at hoq
      exact ⟨_, _, _, _, _, _, rfl, (hoq.keep hb7).mono hs1, ho5.mono (by omega), hb1.trans ((hbel.trans (hb7.mono hs2)).mono hs1)⟩
    | succ j =>
      rw [show ((j + 1 : Nat) : Int) - 1 = (j : Int) by omega]
      have hNn := HN.out
      have hjL : j + nd + 1 ≤ n3 + 1 := by omega
      obtain ⟨p1, hp1⟩ : ∃ p, p = j + nd - 1 := ⟨_, rfl⟩
      obtain ⟨p2, hp2⟩ : ∃ p, p = j + nd - 2 := ⟨_, rfl⟩
      obtain ⟨m0, hm0⟩ : ∃ m, m = nd - 2 := ⟨_, rfl⟩
      have e3 : (j : Int) + (nd : Int) - 1 = (p1 : Int) := by omega
      have e4 : (j : Int) + (nd : Int) - 2 = (p2 : Int) := by omega
      have e5 : (nd : Int) - 2 = (m0 : Int) := by omega
      obtain ⟨x2, hc2, _, hx2⟩ := hpr.get (j + nd) (by rw [hrl.out]; omega)
      obtain ⟨x1, hc1, _, hx1⟩ := hpr.get p1 (by rw [hrl.out]; omega)
      obtain ⟨x0, hc0, _, hx0⟩ := hpr.get p2 (by rw [hrl.out]; omega)
      obtain ⟨y1, hk1, _, hy1⟩ := hpd.get m1 (by rw [HD.out.1, hM1.out]; omega)
      obtain ⟨y0, hk0, _, hy0'⟩ := hpd.get m0 (by rw [HD.out.1]; omega)
      have hb1' : (p1 : Int) < (n3 : Int) + 1 := by omega
      have hb2' : (p2 : Int) < (n3 : Int) + 1 := by omega
      have hb3' : (j : Int) + (nd : Int) < (n3 : Int) + 1 := by omega
      have hb4' : (m1 : Int) < (nd : Int) := by have := hM1.out; omega
      have hb5' : (m0 : Int) < (nd : Int) := by omega
      have HP : Hid (p1 = j + nd - 1 ∧ p2 = j + nd - 2 ∧ m0 = nd - 2) := ⟨hp1, hp2, hm0⟩
      clear hp1 hp2 hm0 hNn
      have hx2W : x2 < 18446744073709551616 := by obtain ⟨h, e⟩ := hx2.out; rw [← e]; exact dr.at _ h
      have hx1W : x1 < 18446744073709551616 := by obtain ⟨h, e⟩ := hx1.out; rw [← e]; exact dr.at _ h
      have hx0W : x0 < 18446744073709551616 := by obtain ⟨h, e⟩ := hx0.out; rw [← e]; exact dr.at _ h
      have hy1W : y1 < 18446744073709551616 := by obtain ⟨h, e⟩ := hy1.out; rw [← e]; exact dD.at _ h
      have hy0W : y0 < 18446744073709551616 := by obtain ⟨h, e⟩ := hy0'.out; rw [← e]; exact dD.at _ h
      have hy1p : 0 < y1 := by
        obtain ⟨h, e⟩ := hy1.out
        obtain ⟨h2, e2⟩ := HLD'.out
        rw [← e]
        simp only [hM1.out]
        exact Nat.pos_of_ne_zero e2
      have hgu := fun w => guess_any x2 x1 x0 y1 y0 hx2W hx1W hx0W hy1W hy0W hy1p w
      obtain ⟨g, hg⟩ : ∃ g, g = guessN x2 x1 x0 y1 y0 := ⟨_, rfl⟩
      rw [← hg] at hgu
      have HGU := mkHid hgu
      -- the part, and the guess against it
      obtain ⟨q1, q2, q3⟩ := quo_part dr (by rw [hrl.out]; omega) hrd.out HD.out.2.2
      have hgb : Hid (val 18446744073709551616 (seg rs j (nd + 1)) / val 18446744073709551616 D ≤ g ∧ g < 18446744073709551616) := by
        have hqW : val 18446744073709551616 (seg rs j (nd + 1)) / val 18446744073709551616 D < 18446744073709551616 := by rw [Nat.div_lt_iff_lt_mul HD.out.2.1]; exact q2
        show _ ∧ _
        rw [hg]
        unfold guessN
        by_cases hge : y1 ≤ x2
        · rw [if_pos hge]; omega
        · rw [if_neg hge]
          obtain ⟨l2, v2⟩ := hx2.out
          obtain ⟨l1, v1⟩ := hx1.out
          obtain ⟨l0, v0⟩ := hx0.out
          obtain ⟨l4, v4⟩ := hy1.out
          obtain ⟨l5, v5⟩ := hy0'.out
          obtain ⟨hp1, hp2, hm0⟩ := HP.out
          refine ⟨guess_ge (by omega) (dr.seg _ _) (seg_length _ _ _ (by rw [hrl.out]; omega)) HD.out.1 hn2' ?_ ?_ ?_ ?_ ?_ hy1p, ?_⟩
          · rw [seg_getD _ _ _ _ (by omega), ← v2]; simp [List.getD, l2]
          · rw [seg_getD _ _ _ _ (by omega), show j + (nd - 1) = p1 by omega, ← v1]; simp [List.getD, l1]
          · rw [seg_getD _ _ _ _ (by omega), show j + (nd - 2) = p2 by omega, ← v0]; simp [List.getD, l0]
          · rw [← hM1.out, ← v4]; simp [List.getD, l4]
          · rw [← hm0, ← v5]; simp [List.getD, l5]
          · exact guess_lt (by omega) hx1W hx0W
      have HQ1 := mkHid q1
      have HQ2 := mkHid q2
      have HQ3 := mkHid q3
      clear hgu hg q1 q2 q3
      go_upto_region 18 with (fail)
      go_quiet ((go_at_call 46; exact Calls.quiet_of (HGU.out _)))
      obtain ⟨wq, hwq⟩ : ∃ wq, wq = wr.drewN nq := ⟨_, rfl⟩
      have hprq : Pre wq br .u64 47 rs tlr := by rw [hwq]; exact hpr
      have hpdq : Pre wq bd .u64 47 D tld := by rw [hwq]; exact hpd
      have hblkq : Blk wq bq .u64 47 (List.replicate (j + 1) 0 ++ qs) := by rw [hwq]; exact hblk
      have hbelq : Below w1.heap.size w1 wq := by rw [hwq]; exact hbel.trans (below_drewN _ _ _)
      rw [← hwq]
      clear hwq hpr hpd hblk hbel hc2 hc1 hc0 hk1 hk0
      have hYq := (hpdq.own (B := 0) (Nat.zero_le _) nd cd HD.out.1 hcd hcdm).sl
      have htk := mkHid (takes_any (c := cr - j) hprq dr (o := j) (n := nd) (by rw [hrl.out]; omega) hYq dD (by intro p e; simp at e; subst e; exact fun h => hne1 h.symm) (by omega) g hgb.out.2)
      have hs1 : (j : Int) + (nd : Int) + 1 ≤ (cr : Int) := by have := hcrn.out; omega
      have hs2 : ¬ cr = j := by have := hcrn.out; omega
      have hs3 : j + nd + 1 - j = nd + 1 := by omega
      go_upto_block 5 with (first
        | (go_at_call 47; (with_reducible refine htk.out.mono ?_); rintro e w6 ⟨bo, us, rfl, hbo, hul0, du, hut0, hud0, huv, hpu, hgr⟩))
      have hbk : Back 18446744073709551616 nd (val 18446744073709551616 D) (val 18446744073709551616 (seg rs j (nd + 1))) g (val 18446744073709551616 (seg us j (nd + 1))) bo := by
        refine ⟨huv, hgb.out.1, hgb.out.2, ?_, hbo⟩
        have := val_lt (du.seg j (nd + 1))
        rw [seg_length _ _ _ (by rw [hul0, hrl.out]; omega)] at this
        exact this
      have hul : Hid (us.length = n3 + 1) := hul0.trans hrl.out
      have hut := mkHid hut0
      have hud := mkHid hud0
      have hpd6 := hpdq.grown hgr hne1.symm
      have hblk6 := hblkq.grown hgr hne2.symm
      have hbel6 := hbelq.trans (grown_below hgr hBr (by have := hbelq.size; omega))
      clear hprq hpdq hblkq hbelq hYq htk huv hgr hx2 hx1 hx0 hy1 hy0' HGU hul0 hut0 hud0
      go_wp2
      go_loopw [15, 17] (fun gv tv wr => ∃ (g bo : Nat) (us : List Nat), gv = .int .u64 g ∧ tv = .bool (decide (0 < bo)) ∧ Hid (us.length = n3 + 1) ∧ Dg 18446744073709551616 us ∧ Hid (us.take j = rs.take j) ∧
        Hid (us.drop (j + nd + 1) = rs.drop (j + nd + 1)) ∧ Back 18446744073709551616 nd (val 18446744073709551616 D) (val 18446744073709551616 (seg rs j (nd + 1))) g (val 18446744073709551616 (seg us j (nd + 1))) bo ∧
        Pre wr br .u64 47 us tlr ∧ Pre wr bd .u64 47 D tld ∧ Blk wr bq .u64 47 (List.replicate (j + 1) 0 ++ qs) ∧ Below w1.heap.size w1 wr) (fun gv _ _ => (intOf gv).toNat)
      case atStart => exact ⟨g, bo, us, rfl, rfl, hul, du, hut, hud, hbk, hpu, hpd6, hblk6, hbel6⟩
      case round =>
        clear hul hut hud hbk hpu hpd6 hblk6 hbel6 hgb
        clear du us
        obtain ⟨g, bo, us, rfl, rfl, hul, du, hut, hud, hbk, hpu, hpd, hblk, hbel⟩ := hrel
        have hgW := hbk.g
        have hbo1 := hbk.bo
        by_cases hbo0 : bo = 0
        · have t5 : decide (0 < bo) = false := decide_eq_false (by omega)
          subst hbo0
          obtain ⟨f1, f2⟩ := hbk.done HD.out.2.1
          have F1 := mkHid f1
          have F2 := mkHid f2
          clear f1 f2
          obtain ⟨z0, hcz, hfz, _⟩ := hblk.get j (by rw [List.length_append, List.length_replicate]; omega)
          have hjN : (j : Int) < (N : Int) := by omega
          go_wp2
          go_roundw
          case rel =>
            have hblk2 := hblk.set j g
            rw [set_top] at hblk2
            have hd2 : val 18446744073709551616 (us.drop j) = val 18446744073709551616 (seg rs j (nd + 1)) % val 18446744073709551616 D := by
              rw [rest_seg _ us j (nd + 1) (by rw [hul.out]; omega), ← Nat.add_assoc, hud.out, HQ3.out, Nat.mul_zero, Nat.add_zero]
              exact F2.out
            refine ⟨j, us, g :: qs, by omega, by go_num, hul, du, ?_, ?_, ?_, ?_, Dg.cons hgW dq, ?_, ?_, hblk2, hbel.setCell (by omega) _⟩
            · show _ = _
              have e := congrArg (List.take j) hrt.out
              rw [List.take_take, List.take_take, Nat.min_eq_left (by omega)] at e
              rw [hut.out, e]
            · show _ < _
              rw [hd2]
              exact Nat.mod_lt _ HD.out.2.1
            · show _ = _
              have hj1 : j < rs.length := by rw [hrl.out]; omega
              have hj2 : j < (R ++ [0]).length := by rw [hlR.out]; omega
              have e1 := val_drop 18446744073709551616 rs j hj1
              have e2 := val_drop 18446744073709551616 (R ++ [0]) j hj2
              have e3 : rs[j] = (R ++ [0])[j] := by
                have e := hrt.out
                rw [take_snoc _ _ hj1, take_snoc _ _ hj2] at e
                exact (List.cons.inj (List.append_inj' e rfl).2).1
              have e4 := hrv.out
              have e5 := Nat.div_add_mod (val 18446744073709551616 (seg rs j (nd + 1))) (val 18446744073709551616 D)
              rw [← F1.out] at e5
              rw [hd2, e2, ← e4, Nat.mul_add, ← e3, val, Nat.add_mul, Nat.mul_assoc]
              rw [e1] at HQ1
              have e6 := HQ1.out
              rw [Nat.mul_comm (val 18446744073709551616 D) g] at e5
              omega
            · show _ = _
              have := hql.out
              rw [List.length_cons]; omega
            · exact Row.set_other hpu (by intro h; exact hne2 h.symm) _ _
            · exact Row.set_other hpd (by intro h; exact hne3 h.symm) _ _
          case measure => simp [intOf]
        · have t5 : decide (0 < bo) = true := decide_eq_true (by omega)
          obtain rfl : bo = 1 := by omega
          have hg0 : 0 < g := by
            rcases Nat.eq_zero_or_pos g with h | h
            · have e := hbk.eq
              have := hbk.U
              rw [h, Nat.zero_mul] at e
              omega
            · exact h
          obtain ⟨g', hg'⟩ : ∃ g', g' = g - 1 := ⟨_, rfl⟩
          have e6 : IntKind.u64.wrap ((g : Int) - 1) = (g' : Int) := by rw [IntKind.wrap_u64]; omega
          have HG' := mkHid hg'
          clear hg'
          have hYs := (hpd.own (B := 0) (Nat.zero_le _) nd cd HD.out.1 hcd hcdm).sl
          have hgv := mkHid (gives_any (c := cr - j) hpu du (o := j) (n := nd) (by rw [hul.out]; omega) hYs dD (by intro p e; simp at e; subst e; exact fun h => hne1 h.symm) (by omega))
          clear hbo0
          go_upto_region 22 with (first
            | (go_at_call 48; (with_reducible refine hgv.out.mono ?_); rintro e w7 ⟨k, us2, rfl, hul2, du2, hut2, hud2, huv2, hpu2, hgr2⟩))
          have hU2 : val 18446744073709551616 (seg us2 j (nd + 1)) < 18446744073709551616 ^ (nd + 1) := by
            have := val_lt (du2.seg j (nd + 1))
            rw [seg_length _ _ _ (by rw [hul2, hul.out]; omega)] at this
            exact this
          have hmore := (hbk.more HD.out.2.1 HD.out.2.2 HQ2.out hU2 huv2).2
          rw [← HG'.out] at hmore
          obtain ⟨bo2, hbo2⟩ : ∃ b, b = if 18446744073709551616 ^ nd ≤ val 18446744073709551616 (seg us2 j (nd + 1)) then 1 else 0 := ⟨_, rfl⟩
          rw [← hbo2] at hmore
          obtain ⟨u, hcu, _, hu⟩ := hpu2.get (j + nd) (by rw [hul2, hul.out]; omega)
          have htz : ((u : Int) != 0) = decide (0 < bo2) := by
            obtain ⟨hp, eu⟩ := hu.out
            have hsl := seg_length us2 j (nd + 1) (by rw [hul2, hul.out]; omega)
            have h3 := top_zero (du2.seg j (nd + 1)) hsl
            have h4 : (seg us2 j (nd + 1))[nd]'(by rw [hsl]; omega) = u := by
              rw [← eu]; simp [seg]
            rw [h4] at h3
            by_cases hz : u = 0
            · rw [bne0_f hz, decide_eq_false]
              rw [hbo2, if_neg (h3.1 hz)]; omega
            · rw [bne0_t hz, decide_eq_true]
              rw [hbo2, if_pos (by by_cases hh : 18446744073709551616 ^ nd ≤ val 18446744073709551616 (seg us2 j (nd + 1)); exact hh; exact absurd (h3.2 hh) hz)]; omega
          have hul3 : Hid (us2.length = n3 + 1) := hul2.trans hul.out
          have hut3 : Hid (us2.take j = rs.take j) := hut2.trans hut.out
          have hud3 : Hid (us2.drop (j + nd + 1) = rs.drop (j + nd + 1)) := hud2.trans hud.out
          have hpd3 := hpd.grown hgr2 hne1.symm
          have hblk3 := hblk.grown hgr2 hne2.symm
          have hbel3 := hbel.trans (grown_below hgr2 hBr (by have := hbel.size; omega))
          clear hul2 hut2 hud2 huv2 hgr2 hbo2 hgv hYs hU2 hu hpu hpd hblk hbel hul hut hud hbk
          go_wp2
          go_roundw
          case rel => exact ⟨g', bo2, us2, rfl, rfl, hul3, du2, hut3, hud3, hmore, hpu2, hpd3, hblk3, hbel3⟩
          case measure => simp [intOf]; have := HG'.out; omega

end Go.Proofs.YtaeamlldocbeeaaDoor

/- limb: Quo, whole. -/

namespace Go.Proofs.YtaeamlldocbeeaaDoor
open Go.RowKit Num

/-- limb.Quo by a number that is not 0 -/
theorem quo_any {a1 a2 : Option Addr} {n1 c1 n2 c2 : Nat} {xs ys : List Nat} {w : World} (h1 : Sl .u64 w a1 n1 c1 xs) (h2 : Sl .u64 w a2 n2 c2 ys) (hd1 : Dg 18446744073709551616 xs) (hd2 : Dg 18446744073709551616 ys)
    (hn1 : n1 ≤ 1048576) (h0 : 0 < val 18446744073709551616 ys) :
    Calls Tryd.prog 25 #[.slice a1 n1 c1, .slice a2 n2 c2] w (GivesQ w (dig 18446744073709551616 (val 18446744073709551616 xs / val 18446744073709551616 ys)) (dig 18446744073709551616 (val 18446744073709551616 xs % val 18446744073709551616 ys)) true) := by
  by_cases hlt : val 18446744073709551616 xs < val 18446744073709551616 ys
  · rw [Nat.div_eq_of_lt hlt, Nat.mod_eq_of_lt hlt, dig_zero]
    exact quo_less h1 h2 hd1 hd2 (by omega) hlt
  · by_cases hW : val 18446744073709551616 ys < 18446744073709551616
    · exact quo_one h1 h2 hd1 hd2 (by omega) (by omega) h0 hW
    · exact quo_big h1 h2 hd1 hd2 hn1 (by omega) (by omega)

end Go.Proofs.YtaeamlldocbeeaaDoor
