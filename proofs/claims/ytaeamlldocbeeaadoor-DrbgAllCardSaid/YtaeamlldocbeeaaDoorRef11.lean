/- baileyref1: Quo. -/
import Derived.Test.YtaeamlldocbeeaaDoorRef10
import Derived.Test.YtaeamlldocbeeaaDoorNumA
import Derived.Test.YtaeamlldocbeeaaDoorNm
namespace Go.Proofs.YtaeamlldocbeeaaDoor
open Go.RowKit Num

/-- two numbers of the reference are the results -/
def GivesRR (w : World) (q r : Nat) (e : Ending) (w' : World) : Prop :=
  ∃ a1 n1 c1 a2 n2 c2, e = .returned (.tuple #[.slice a1 n1 c1, .slice a2 n2 c2]) ∧ Sl .u64 w' a1 n1 c1 (dig 4294967296 q) ∧ Sl .u64 w' a2 n2 c2 (dig 4294967296 r) ∧ Below w.heap.size w w'

theorem rquo_less {a1 a2 : Option Addr} {n1 c1 n2 c2 u v : Nat} {w : World} (h1 : Sl .u64 w a1 n1 c1 (dig 4294967296 u)) (h2 : Sl .u64 w a2 n2 c2 (dig 4294967296 v)) (hn1 : n1 ≤ 1099511627776) (hlt : u < v) :
    Calls Tryd.prog 50 #[.slice a1 n1 c1, .slice a2 n2 c2] w (GivesRR w (u / v) (u % v)) := by
  rw [Nat.div_eq_of_lt hlt, Nat.mod_eq_of_lt hlt]
  have hcm := mkHid (cmpI_lt hlt)
  clear hlt
  go_enter Tryd.func50, Tryd.ntmps50
  go_wp2_with (first
    | (go_at_call 61; (with_reducible refine (rcmp_any h1 h2 hn1).mono ?_); rintro e w' ⟨rfl, hb⟩; rw [hcm.out]))
  go_ret2
  exact ⟨none, 0, 0, a1, n1, c1, rfl, Sl.nilSl _ _, h1.keep hb, hb⟩

theorem rquo_one {a1 a2 : Option Addr} {n1 c1 c2 u v : Nat} {w : World} (h1 : Sl .u64 w a1 n1 c1 (dig 4294967296 u)) (h2 : Sl .u64 w a2 1 c2 (dig 4294967296 v)) (hn1 : n1 ≤ 1099511627776) (hge : v ≤ u) :
    Calls Tryd.prog 50 #[.slice a1 n1 c1, .slice a2 1 c2] w (GivesRR w (u / v) (u % v)) := by
  have hlen := h2.len
  have hvV : v < 4294967296 := by
    have := (dig_length_le 4294967296 (by omega) 1 v).1 (by omega)
    rwa [Nat.pow_one] at this
  have hv0 : 0 < v := by
    rcases Nat.eq_zero_or_pos v with h | h
    · rw [h, dig_zero] at hlen; simp at hlen
    · exact h
  have hcm := mkHid (cmpI_ge hge)
  obtain ⟨z, hz⟩ : ∃ z, z = cmpI u v := ⟨_, rfl⟩
  rw [← hz] at hcm
  have HZ := mkHid hz
  clear hz
  have t1 := hcm.out
  have hdig : dig 4294967296 v = [v] := dig_lt_base _ (by omega) hvV (by omega)
  rw [hdig] at h2
  obtain ⟨b2, o2, rfl⟩ := h2.addr (by omega)
  have hc2 : w.cell? ⟨b2, o2, none⟩ = some (.int .u64 (v : Int)) := h2.cell 0 (by simp)
  have h2' : Sl .u64 w (some ⟨b2, o2, none⟩) 1 c2 (dig 4294967296 v) := by rw [hdig]; exact h2
  have hv0' := mkHid hv0
  have hr0 := mkHid (Nat.mod_lt u hv0)
  obtain ⟨r, hr⟩ : ∃ r, r = u % v := ⟨_, rfl⟩
  rw [← hr] at hr0
  have HR := mkHid hr
  clear hr hge hdig hlen
  go_enter Tryd.func50, Tryd.ntmps50
  go_wp2_with (first
    | (go_at_call 61; (with_reducible refine (rcmp_any h1 h2' hn1).mono ?_); rintro e w' ⟨rfl, hb⟩; rw [← HZ.out]; have hc3 := (h2.keep hb).cell 0 (by simp); simp only [Nat.add_zero, List.getElem_cons_zero] at hc3)
    | (go_at_call 62; (with_reducible refine (rsmall_any (h1.keep hb) hn1 v hv0'.out (by omega)).mono ?_); rintro e w4 ⟨a3, n3, c3, rfl, hs3, hb3⟩; rw [← HR.out]))
  have hd1 : Dg 4294967296 [r] := Dg.cons (by have := hr0.out; omega) Dg.nil
  have hbk := Blk.new1 w4 .u64 47 r
  go_wp2_with (first
    | (go_at_call 27; (with_reducible refine (rtrim_blk (B := 0) (n := 1) hbk rfl (by omega) hd1 (Nat.zero_le _)).mono ?_); rintro e w5 ⟨m, rfl, hm, hs5, rfl⟩))
  go_ret2
  rw [val_single] at hs5
  exact ⟨a3, n3, c3, _, _, _, rfl, hs3.keep (below_alloc _ (Nat.le_refl _)), by rw [← HR.out]; exact hs5, hb.trans ((hb3.alloc hb3.size _).mono hb.size)⟩

theorem Blk.cut {k : IntKind} {T : TypeId} {w : World} {b : Nat} {xs : List Nat} (h : Blk w b k T xs) (m : Nat) (hm : m ≤ xs.length) (hc : m ≤ 9223372036854775807) : Sl k w (some ⟨b, 0, none⟩) m m (xs.take m) := by
  refine ⟨by rw [List.length_take]; omega, Nat.le_refl _, hc, fun e => by simp at e, fun p e _ => by simp at e; subst e; rfl, fun i hi => ⟨b, 0, rfl, ?_⟩⟩
  rw [List.length_take] at hi
  rw [Nat.zero_add, h.cell i (by omega), List.getElem_take]

set_option maxRecDepth 100000 in
set_option maxHeartbeats 4000000 in
theorem rquo_big {a1 a2 : Option Addr} {n1 c1 n2 c2 u v : Nat} {w : World} (h1 : Sl .u64 w a1 n1 c1 (dig 4294967296 u)) (h2 : Sl .u64 w a2 n2 c2 (dig 4294967296 v)) (hn1 : n1 ≤ 1048576) (hge : v ≤ u) (hn2 : 2 ≤ n2) :
    Calls Tryd.prog 50 #[.slice a1 n1 c1, .slice a2 n2 c2] w (GivesRR w (u / v) (u % v)) := by
  have hl1 := h1.len
  have hl2 := h2.len
  have hn21 : n2 ≤ n1 := by rw [← hl1, ← hl2]; exact dig_length_mono _ (by omega) hge
  have dY := Dg.dig 4294967296 (by omega) v
  have vY := val_dig 4294967296 (by omega) v
  have hu : u < 4294967296 ^ n1 := (dig_length_le 4294967296 (by omega) n1 u).1 (by omega)
  have hvn : v < 4294967296 ^ n2 := (dig_length_le 4294967296 (by omega) n2 v).1 (by omega)
  have hvp : 4294967296 ^ (n2 - 1) ≤ v := (lt_dig_length 4294967296 (by omega) (n2 - 1) v).1 (by omega)
  have hv0 : 0 < v := Nat.lt_of_lt_of_le (Nat.pow_pos (by omega)) hvp
  obtain ⟨m, hm⟩ : ∃ m, m = n2 - 1 := ⟨_, rfl⟩
  have em : (n2 : Int) - 1 = (m : Int) := by omega
  obtain ⟨b2, o2, bt, rfl, hcb2, hbt⟩ := h2.get m (by omega)
  have hbt0 : Hid (bt ≠ 0) := by
    obtain ⟨h, e⟩ := hbt.out
    have h3 := dig_last 4294967296 (by omega) v (by omega)
    have e4 : (dig 4294967296 v).length - 1 = m := by omega
    simp only [e4, e] at h3
    exact h3
  have hbtV : bt < 4294967296 := by obtain ⟨h, e⟩ := hbt.out; rw [← e]; exact dY.at _ h
  obtain ⟨bt1, hbt1⟩ : ∃ b, b = bt + 1 := ⟨_, rfl⟩
  obtain ⟨sc, hsc⟩ : ∃ sc, sc = 4294967296 / bt1 := ⟨_, rfl⟩
  have hb0 := hbt0.out
  have hsc1 : 1 ≤ sc ∧ sc < 4294967296 := by
    rw [hsc]
    refine ⟨(Nat.le_div_iff_mul_le (by omega)).2 (by omega), ?_⟩
    rw [Nat.div_lt_iff_lt_mul (by omega)]
    omega
  have hvsc : v * sc < 4294967296 ^ n2 := by
    obtain ⟨h, e⟩ := hbt.out
    have := scale_lt dY (m := m) (by omega) sc (by rw [hsc, hbt1, e])
    rw [vY, show m + 1 = n2 by omega] at this
    rcases this with h | h
    · exact h
    · omega
  have f1 : (bt : Int) + 1 = (bt1 : Int) := by omega
  have f2 : (4294967296 : Int) / (bt1 : Int) = (sc : Int) := by rw [hsc, Int.natCast_ediv]; rfl
  have f3 : ((bt1 : Int) == 0) = false := beq0_f (by omega)
  have f4 : ((n2 : Int) == 1) = false := beq_f (n := 1) (by omega)
  have hcm := mkHid (cmpI_ge hge)
  obtain ⟨z, hz⟩ : ∃ z, z = cmpI u v := ⟨_, rfl⟩
  rw [← hz] at hcm
  have HZ := mkHid hz
  have t1 := hcm.out
  have HM : Hid (m = n2 - 1) := hm
  have HU := mkHid hu
  have HVN := mkHid hvn
  have HVP := mkHid hvp
  have HV0 := mkHid hv0
  have HVS := mkHid hvsc
  have hb1W : bt1 ≤ 4294967296 := by omega
  clear hz hm hu hvn hvp hv0 hvsc hsc hb0 vY dY hl1 hl2 hge hbt1
  go_enter Tryd.func50, Tryd.ntmps50
  go_upto_region 8 with (first
    | (go_at_call 61; (with_reducible refine (rcmp_any h1 h2 (by omega)).mono ?_); rintro e w1 ⟨rfl, hb1⟩; rw [← HZ.out]; have hcb3 := (hb1.cell (World.block_lt_of_cell? _ _ hcb2)).trans hcb2)
    | (go_at_call 63; (with_reducible refine (rtimes_any (h1.keep hb1) (by omega) sc hsc1.2).mono ?_); rintro e w2 ⟨bu, us, rfl, hBu, hul, du, huv, hbku, hb2⟩; have HUV := mkHid huv; have HUL := mkHid hul; clear huv hul))
  obtain ⟨N, hN⟩ : ∃ N, N = n1 + 1 - n2 := ⟨_, rfl⟩
  have e6 : (n1 : Int) + 1 - (n2 : Int) = (N : Int) := by omega
  have HN : Hid (N + n2 = n1 + 1) := by show _ = _; omega
  have hN1 : 1 ≤ N ∧ N ≤ n1 := by omega
  clear hN
  have htl : Hid (∀ vs : List Nat, Dg 4294967296 vs → val 4294967296 vs = v * sc → tlen vs = n2) := by
    show ∀ _, _
    intro vs dv hv
    rw [← length_dig_val 4294967296 (by omega) dv, hv]
    have a1 := (dig_length_le 4294967296 (by omega) n2 (v * sc)).2 HVS.out
    have a2 := (lt_dig_length 4294967296 (by omega) (n2 - 1) (v * sc)).2 (Nat.le_trans HVP.out (Nat.le_mul_of_pos_right v hsc1.1))
    omega
  go_wp2_with (first
    | (go_at_call 63; (with_reducible refine (rtimes_any ((h2.keep hb1).keep hb2) (by omega) sc hsc1.2).mono ?_); rintro e w3 ⟨bv, vs, rfl, hBv, hvl, dv, hvv, hbkv, hb3⟩; have HVV := mkHid hvv; have HVL := mkHid hvl; clear hvv hvl)
    | (go_at_call 27; (with_reducible refine (rtrim_any (hbkv.sl (n2 + 1) HVL.out (by omega))).mono ?_); rintro e w' ⟨rfl, rfl⟩; rw [htl.out vs dv HVV.out])
    | (at_make; refine wpList_mk rfl _ _ _ rfl 47 .u64 8 under_ref info_u64 N rfl rfl (by omega) (by omega) (by omega) (by omega) ?_; intro bq w4 hBq hbkq hb4)
    | (at_make; refine wpList_mk rfl _ _ _ rfl 47 .u64 8 under_ref info_u64 (n2 + 1) rfl rfl (by omega) (by omega) (by omega) (by omega) ?_; intro bw w5 hBw hbkw hb5))
  -- where all lies
  have hs2 := hb2.size
  have hs3 := hb3.size
  have hs4 := hb4.size
  have hs5 := hb5.size
  have hltu := hbku.lt
  have hltv := hbkv.lt
  have hltq := hbkq.lt
  have huw : bu ≠ bw := by omega
  have hvu : bv ≠ bu := by omega
  have hvw : bv ≠ bw := by omega
  have hqu : bq ≠ bu := by omega
  have hqw : bq ≠ bw := by omega
  have hqv : bq ≠ bv := by omega
  have hBw1 : w1.heap.size ≤ bw := by omega
  have hBq1 : w1.heap.size ≤ bq := by omega
  have hBv1 : w1.heap.size ≤ bv := by omega
  have hbu := ((hbku.keep hb3).keep hb4).keep hb5
  have hbv := (hbkv.keep hb4).keep hb5
  have hbq := hbkq.keep hb5
  have hbel : Below w1.heap.size w1 w5 := ((hb2.trans (hb3.mono hs2)).trans (hb4.mono (by omega))).trans (hb5.mono (by omega))
  have vD : Hid (val 4294967296 (vs.take n2) = v * sc) := by
    show _ = _
    rw [← htl.out vs dv HVV.out, val_take_tlen, HVV.out]
  have HD0 : Hid (0 < v * sc) := Nat.mul_pos HV0.out hsc1.1
  have HY1 : Hid (∀ y, (∃ h : m < vs.length, vs[m] = y) → 0 < y) := by
    show ∀ _, _
    rintro y ⟨h, e⟩
    have h3 := dig_of_val 4294967296 (by omega) dv _ HVV.out
    rw [htl.out vs dv HVV.out] at h3
    have h4 := dig_last 4294967296 (by omega) (v * sc) (by rw [← h3, List.length_take, HVL.out]; omega)
    simp only [← h3, List.length_take, HVL.out, List.getElem_take, Nat.min_eq_left (show n2 ≤ n2 + 1 by omega), ← HM.out, e] at h4
    omega
  have hst : Hid (val 4294967296 (us.drop N) < v * sc) := start_lt (by omega) du HUV.out HU.out HVP.out (by omega) HN.out hsc1.1
  clear hbku hbkv hbkq hb3 hb4 hb5 hs2 hs3 hs4 hs5 hltu hltv hltq hBv hBq hBw hcb3 hcb2 f1 f2 f3 f4
  go_loopw [14] (fun kv wr => ∃ (j : Nat) (rs qs ws : List Nat), j ≤ N ∧ kv = .int .i64 ((j : Int) - 1) ∧ Hid (rs.length = n1 + 1) ∧ Dg 4294967296 rs ∧ Hid (rs.take j = us.take j) ∧
    Hid (val 4294967296 (rs.drop j) < v * sc) ∧ Hid (val 4294967296 qs * (v * sc) + val 4294967296 (rs.drop j) = val 4294967296 (us.drop j)) ∧ Hid (j + qs.length = N) ∧ Dg 4294967296 qs ∧ Hid (ws.length = n2 + 1) ∧
    Blk wr bu .u64 47 rs ∧ Blk wr bv .u64 47 vs ∧ Blk wr bq .u64 47 (List.replicate j 0 ++ qs) ∧ Blk wr bw .u64 47 ws ∧ Below w1.heap.size w1 wr) (fun kv _ => (intOf kv + 1).toNat)
  case atStart =>
    exact ⟨N, us, [], _, Nat.le_refl _, rfl, HUL, du, rfl, hst, by show _ = _; simp [val], by show _ = _; simp, Dg.nil, by show _ = _; simp, hbu, hbv, by simpa using hbq, hbkw, hbel⟩
  case round =>
    clear hbu hbv hbq hbkw hbel hst
    obtain ⟨j, rs, qs, ws, hj, rfl, hrl, dr, hrt, hrd, hrv, hql, dq, hwl, hbu, hbv, hbq, hbw, hbel⟩ := hrel
    cases j with
    | zero =>
      rw [show ((0 : Nat) : Int) - 1 = -1 from rfl]
      rw [List.replicate_zero, List.nil_append] at hbq
      have hqN : Hid (qs.length = N) := by have := hql.out; show _ = _; omega
      have hend : Hid (val 4294967296 qs = u / v ∧ val 4294967296 rs / sc = u % v) := by
        have e1 := hrv.out
        have e2 := hrd.out
        rw [List.drop_zero] at e1 e2
        rw [List.drop_zero, HUV.out] at e1
        exact quo_end2 _ _ _ _ _ hsc1.1 e1 e2
      go_wp2_with (first
        | (go_at_call 27; (with_reducible refine (rtrim_blk hbu hrl.out (by omega) dr hBu).mono ?_); rintro e w' ⟨m1, rfl, hm1, ho1, rfl⟩)
        | (go_at_call 62; (with_reducible refine (rsmall_any ho1 (by omega) sc (by omega) (by omega)).mono ?_); rintro e w7 ⟨a3, n3, c3, rfl, hs3, hb7⟩; have hbq7 := hbq.keep hb7)
        | (go_at_call 27; (with_reducible refine (rtrim_blk hbq7 hqN.out (by omega) dq hBq1).mono ?_); rintro e w' ⟨m2, rfl, hm2, ho2, rfl⟩))
      go_ret2
      rw [hend.out.2] at hs3
      rw [hend.out.1] at ho2
      exact ⟨_, _, _, _, _, _, rfl, ho2, hs3, hb1.trans ((hbel.trans (hb7.mono hbel.size)).mono hb1.size)⟩
    | succ j =>
      rw [show ((j + 1 : Nat) : Int) - 1 = (j : Int) by omega]
      have hNn := HN.out
      have hjL : j + n2 + 1 ≤ n1 + 1 := by omega
      obtain ⟨p1, hp1⟩ : ∃ p, p = j + n2 - 1 := ⟨_, rfl⟩
      have e3 : (j : Int) + (n2 : Int) - 1 = (p1 : Int) := by omega
      obtain ⟨x1, hc1, _, hx1⟩ := hbu.get (j + n2) (by rw [hrl.out]; omega)
      obtain ⟨x0, hc0, _, hx0⟩ := hbu.get p1 (by rw [hrl.out]; omega)
      obtain ⟨y1, hk1, _, hy1⟩ := hbv.get m (by rw [HVL.out]; have := HM.out; omega)
      have hb1' : (p1 : Int) < (n1 : Int) + 1 := by omega
      have hb3' : (j : Int) + (n2 : Int) < (n1 : Int) + 1 := by omega
      have hb4' : (m : Int) < (n2 : Int) := by have := HM.out; omega
      have HP : Hid (p1 = j + n2 - 1) := hp1
      clear hp1 hNn
      have hx1V : x1 < 4294967296 := by obtain ⟨h, e⟩ := hx1.out; rw [← e]; exact dr.at _ h
      have hx0V : x0 < 4294967296 := by obtain ⟨h, e⟩ := hx0.out; rw [← e]; exact dr.at _ h
      have hy1V : y1 < 4294967296 := by obtain ⟨h, e⟩ := hy1.out; rw [← e]; exact dv.at _ h
      have hy1p : 0 < y1 := HY1.out y1 hy1.out
      obtain ⟨p, hp⟩ : ∃ p, p = x1 * 4294967296 := ⟨_, rfl⟩
      obtain ⟨t, ht⟩ : ∃ t, t = p + x0 := ⟨_, rfl⟩
      obtain ⟨g0, hg0⟩ : ∃ g, g = t / y1 := ⟨_, rfl⟩
      have htW : t < 18446744073709551616 := by omega
      have f1 : IntKind.u64.wrap ((x1 : Int) * 4294967296) = (p : Int) := by rw [IntKind.wrap_u64]; omega
      have f2 : IntKind.u64.wrap ((p : Int) + (x0 : Int)) = (t : Int) := by rw [IntKind.wrap_u64]; omega
      have f3 : (t : Int) / (y1 : Int) = (g0 : Int) := by rw [hg0, Int.natCast_ediv]
      have f4 : ((y1 : Int) == 0) = false := beq0_f (by omega)
      have hg0W : g0 < 18446744073709551616 := Nat.lt_of_le_of_lt (by rw [hg0]; exact Nat.div_le_self _ _) htW
      obtain ⟨q1, q2, q3⟩ := quo_part dr (by rw [hrl.out]; omega) hrd.out HVS.out
      have hgg : Hid (val 4294967296 (seg rs j (n2 + 1)) / val 4294967296 (vs.take n2) ≤ g0 ∧ val 4294967296 (seg rs j (n2 + 1)) / val 4294967296 (vs.take n2) < 4294967296) := by
        refine ⟨?_, ?_⟩
        · rw [hg0, ht, hp]
          obtain ⟨l1, v1⟩ := hx1.out
          obtain ⟨l0, v0⟩ := hx0.out
          obtain ⟨l4, v4⟩ := hy1.out
          have hM := HM.out
          have hPo := HP.out
          refine guess1_ge (by omega) (dr.seg _ _) (seg_length _ _ _ (by rw [hrl.out]; omega)) (by rw [List.length_take, HVL.out]; omega) (by omega) ?_ ?_ ?_ hy1p
          · rw [seg_getD _ _ _ _ (by omega), ← v1]; simp [List.getD, l1]
          · rw [seg_getD _ _ _ _ (by omega), show j + (n2 - 1) = p1 by omega, ← v0]; simp [List.getD, l0]
          · rw [← hM, ← v4]; simp [List.getD, l4, show m < n2 by omega]
        · rw [vD.out, Nat.div_lt_iff_lt_mul HD0.out]; exact q2
      have HQ1 := mkHid q1
      have HQ3 := mkHid q3
      clear hg0 ht hp q1 q2 q3
      go_upto_region 15 with (fail)
      go_quiet (fail)
      obtain ⟨wq, hwq⟩ : ∃ wq, wq = wr.drewN nq := ⟨_, rfl⟩
      have hbu2 : Blk wq bu .u64 47 rs := by rw [hwq]; exact hbu
      have hbv2 : Blk wq bv .u64 47 vs := by rw [hwq]; exact hbv
      have hbq2 : Blk wq bq .u64 47 (List.replicate (j + 1) 0 ++ qs) := by rw [hwq]; exact hbq
      have hbw2 : Blk wq bw .u64 47 ws := by rw [hwq]; exact hbw
      have hbel2 : Below w1.heap.size w1 wq := by rw [hwq]; exact hbel.trans (below_drewN _ _ _)
      rw [← hwq]
      clear hwq hbu hbv hbq hbw hbel hc1 hc0 hk1 hx1 hx0 hy1 f1 f2 f3 f4
      have hbu := hbu2
      have hbv := hbv2
      have hbq := hbq2
      have hbw := hbw2
      have hbel := hbel2
      clear hbu2 hbv2 hbq2 hbw2 hbel2
      by_cases hbig : 4294967296 ≤ g0
      · have t5 : decide ((4294967296 : Int) ≤ (g0 : Int)) = true := decide_eq_true (by omega)
        have hgb : Hid (val 4294967296 (seg rs j (n2 + 1)) / val 4294967296 (vs.take n2) ≤ 4294967295) := by have := hgg.out.2; show _ ≤ _; omega
        go_wp2
        go_loopw [15] (fun gv wr => ∃ (g : Nat) (ws : List Nat), gv = .int .u64 g ∧ g < 4294967296 ∧ Hid (val 4294967296 (seg rs j (n2 + 1)) / val 4294967296 (vs.take n2) ≤ g) ∧ Hid (ws.length = n2 + 1) ∧
          Blk wr bu .u64 47 rs ∧ Blk wr bv .u64 47 vs ∧ Blk wr bq .u64 47 (List.replicate (j + 1) 0 ++ qs) ∧ Blk wr bw .u64 47 ws ∧ Below w1.heap.size w1 wr) (fun gv _ => (intOf gv).toNat)
        case atStart => exact ⟨4294967295, ws, rfl, by omega, hgb, hwl, hbu, hbv, hbq, hbw, hbel⟩
        case round =>
          clear hbu hbv hbq hbw hbel hwl hgb
          clear ws
          obtain ⟨g, ws, rfl, hgV, hgb, hwl, hbu, hbv, hbq, hbw, hbel⟩ := hrel
          have hls := mkHid (rless_any (k := j) (g := g) hbu hbv hbw hrl.out (by have := HVL.out; omega) hwl.out (by have := HN.out; omega) (by omega) hgV dr dv huw hvu hvw)
          by_cases hle : g * val 4294967296 (vs.take n2) ≤ val 4294967296 (seg rs j (n2 + 1))
          · have HLE := mkHid hle
            clear hle
            go_upto_region 20 with (first
              | (go_at_call 64; (with_reducible refine hls.out.mono ?_); rintro e w6 ⟨zs, rfl, hzl, dz, hzv, hbu6, hbv6, hbw6, ho6⟩; rw [decide_eq_true HLE.out]))
            rw [if_pos HLE.out] at hbu6
            have hzv2 := mkHid (hzv HLE.out)
            have HZL := mkHid hzl
            have hbq6 := hbq.only2 ho6 hqu hqw
            have hbel6 := hbel.trans (ho6.below w1.heap.size hBu hBw1 hbel.size)
            have hgq : Hid (g = val 4294967296 (seg rs j (n2 + 1)) / val 4294967296 (vs.take n2)) := by
              refine Nat.le_antisymm ((Nat.le_div_iff_mul_le ?_).2 HLE.out) hgb.out
              rw [vD.out]; exact HD0.out
            clear hbu hbv hbw hbq hbel ho6 hzv hzl hls
            obtain ⟨z0, hcz, hfz, _⟩ := hbq6.get j (by rw [List.length_append, List.length_replicate]; omega)
            have hjN : (j : Int) < (N : Int) := by omega
            go_wp2
            go_roundw
            case rel =>
              have hq2 := hbq6.set j g
              rw [set_top] at hq2
              have hlen := hrl.out
              have hNn := HN.out
              have hd2 : val 4294967296 ((rs.take j ++ (zs ++ rs.drop (j + (n2 + 1)))).drop j) = val 4294967296 zs := by
                rw [List.drop_append_of_le_length (by rw [List.length_take]; omega), List.drop_of_length_le (by rw [List.length_take]; omega), List.nil_append, val_append, show j + (n2 + 1) = j + n2 + 1 by omega, HQ3.out, Nat.mul_zero, Nat.add_zero]
              have hzD : val 4294967296 zs < v * sc ∧ g * (v * sc) + val 4294967296 zs = val 4294967296 (seg rs j (n2 + 1)) := by
                have e1 := hzv2.out
                rw [vD.out] at e1
                refine ⟨?_, e1⟩
                have e2 := Nat.div_add_mod (val 4294967296 (seg rs j (n2 + 1))) (v * sc)
                have e3 := Nat.mod_lt (val 4294967296 (seg rs j (n2 + 1))) HD0.out
                have e4 := hgq.out
                rw [vD.out] at e4
                rw [← e4, Nat.mul_comm (v * sc)] at e2
                omega
              refine ⟨j, _, g :: qs, zs, by omega, by go_num, ?_, ?_, ?_, ?_, ?_, ?_, Dg.cons hgV dq, HZL, hbu6.other (Ne.symm hqu.symm) _, hbv6.other hqv _, hq2, hbw6.other hqw _, hbel6.setCell (by omega) _⟩
              · show _ = _
                rw [List.length_append, List.length_append, List.length_take, List.length_drop, HZL.out]; omega
              · exact (dr.take j).append (dz.append (dr.drop _))
              · show _ = _
                rw [List.take_append_of_le_length (by rw [List.length_take]; omega), List.take_take, Nat.min_self]
                have e := congrArg (List.take j) hrt.out
                rw [List.take_take, List.take_take, Nat.min_eq_left (by omega)] at e
                exact e
              · show _ < _
                rw [hd2]; exact hzD.1
              · show _ = _
                have hj1 : j < rs.length := by omega
                have hj2 : j < us.length := by rw [HUL.out]; omega
                have e1 := val_drop 4294967296 rs j hj1
                have e2 := val_drop 4294967296 us j hj2
                have e3 : rs[j] = us[j] := by
                  have e := hrt.out
                  rw [take_snoc _ _ hj1, take_snoc _ _ hj2] at e
                  exact (List.cons.inj (List.append_inj' e rfl).2).1
                have e4 := hrv.out
                have e5 := hzD.2
                have e6 := HQ1.out
                rw [hd2, e2, ← e4, Nat.mul_add, ← e3, val, Nat.add_mul, Nat.mul_assoc]
                omega
              · show _ = _
                have := hql.out
                rw [List.length_cons]; omega
            case measure => simp [intOf]
          · have HLE := mkHid hle
            have hg0 : 0 < g := by
              rcases Nat.eq_zero_or_pos g with h | h
              · rw [h, Nat.zero_mul] at hle; exact absurd (Nat.zero_le _) hle
              · exact h
            have hgb2 : Hid (val 4294967296 (seg rs j (n2 + 1)) / val 4294967296 (vs.take n2) ≤ g - 1) := by
              have h3 : val 4294967296 (seg rs j (n2 + 1)) / val 4294967296 (vs.take n2) < g := by
                rw [Nat.div_lt_iff_lt_mul (by rw [vD.out]; exact HD0.out)]; omega
              show _ ≤ _
              omega
            obtain ⟨g', hg'⟩ : ∃ g', g' = g - 1 := ⟨_, rfl⟩
            have e8 : IntKind.u64.wrap ((g : Int) - 1) = (g' : Int) := by rw [IntKind.wrap_u64]; omega
            have hg'V : g' < 4294967296 := by omega
            have hg'g : g' < g := by omega
            rw [← hg'] at hgb2
            clear hle hg'
            go_upto_region 19 with (first
              | (go_at_call 64; (with_reducible refine hls.out.mono ?_); rintro e w6 ⟨zs, rfl, hzl, dz, hzv, hbu6, hbv6, hbw6, ho6⟩; rw [decide_eq_false HLE.out]))
            rw [if_neg HLE.out] at hbu6
            have HZL := mkHid hzl
            have hbq6 := hbq.only2 ho6 hqu hqw
            have hbel6 := hbel.trans (ho6.below w1.heap.size hBu hBw1 hbel.size)
            clear hbu hbv hbw hbq hbel ho6 hzv hzl hls
            go_wp2
            go_roundw
            case rel => exact ⟨g', zs, rfl, hg'V, hgb2, HZL, hbu6, hbv6, hbq6, hbw6, hbel6⟩
            case measure => simp [intOf]; omega
      · have t5 : decide ((4294967296 : Int) ≤ (g0 : Int)) = false := decide_eq_false (by omega)
        have hgb : Hid (val 4294967296 (seg rs j (n2 + 1)) / val 4294967296 (vs.take n2) ≤ g0) := hgg.out.1
        go_wp2
        go_loopw [15] (fun gv wr => ∃ (g : Nat) (ws : List Nat), gv = .int .u64 g ∧ g < 4294967296 ∧ Hid (val 4294967296 (seg rs j (n2 + 1)) / val 4294967296 (vs.take n2) ≤ g) ∧ Hid (ws.length = n2 + 1) ∧
          Blk wr bu .u64 47 rs ∧ Blk wr bv .u64 47 vs ∧ Blk wr bq .u64 47 (List.replicate (j + 1) 0 ++ qs) ∧ Blk wr bw .u64 47 ws ∧ Below w1.heap.size w1 wr) (fun gv _ => (intOf gv).toNat)
        case atStart => exact ⟨g0, ws, rfl, by omega, hgb, hwl, hbu, hbv, hbq, hbw, hbel⟩
        case round =>
          clear hbu hbv hbq hbw hbel hwl hgb
          clear ws
          obtain ⟨g, ws, rfl, hgV, hgb, hwl, hbu, hbv, hbq, hbw, hbel⟩ := hrel
          have hls := mkHid (rless_any (k := j) (g := g) hbu hbv hbw hrl.out (by have := HVL.out; omega) hwl.out (by have := HN.out; omega) (by omega) hgV dr dv huw hvu hvw)
          by_cases hle : g * val 4294967296 (vs.take n2) ≤ val 4294967296 (seg rs j (n2 + 1))
          · have HLE := mkHid hle
            clear hle
            go_upto_region 20 with (first
              | (go_at_call 64; (with_reducible refine hls.out.mono ?_); rintro e w6 ⟨zs, rfl, hzl, dz, hzv, hbu6, hbv6, hbw6, ho6⟩; rw [decide_eq_true HLE.out]))
            rw [if_pos HLE.out] at hbu6
            have hzv2 := mkHid (hzv HLE.out)
            have HZL := mkHid hzl
            have hbq6 := hbq.only2 ho6 hqu hqw
            have hbel6 := hbel.trans (ho6.below w1.heap.size hBu hBw1 hbel.size)
            have hgq : Hid (g = val 4294967296 (seg rs j (n2 + 1)) / val 4294967296 (vs.take n2)) := by
              refine Nat.le_antisymm ((Nat.le_div_iff_mul_le ?_).2 HLE.out) hgb.out
              rw [vD.out]; exact HD0.out
            clear hbu hbv hbw hbq hbel ho6 hzv hzl hls
            obtain ⟨z0, hcz, hfz, _⟩ := hbq6.get j (by rw [List.length_append, List.length_replicate]; omega)
            have hjN : (j : Int) < (N : Int) := by omega
            go_wp2
            go_roundw
            case rel =>
              have hq2 := hbq6.set j g
              rw [set_top] at hq2
              have hlen := hrl.out
              have hNn := HN.out
              have hd2 : val 4294967296 ((rs.take j ++ (zs ++ rs.drop (j + (n2 + 1)))).drop j) = val 4294967296 zs := by
                rw [List.drop_append_of_le_length (by rw [List.length_take]; omega), List.drop_of_length_le (by rw [List.length_take]; omega), List.nil_append, val_append, show j + (n2 + 1) = j + n2 + 1 by omega, HQ3.out, Nat.mul_zero, Nat.add_zero]
              have hzD : val 4294967296 zs < v * sc ∧ g * (v * sc) + val 4294967296 zs = val 4294967296 (seg rs j (n2 + 1)) := by
                have e1 := hzv2.out
                rw [vD.out] at e1
                refine ⟨?_, e1⟩
                have e2 := Nat.div_add_mod (val 4294967296 (seg rs j (n2 + 1))) (v * sc)
                have e3 := Nat.mod_lt (val 4294967296 (seg rs j (n2 + 1))) HD0.out
                have e4 := hgq.out
                rw [vD.out] at e4
                rw [← e4, Nat.mul_comm (v * sc)] at e2
                omega
              refine ⟨j, _, g :: qs, zs, by omega, by go_num, ?_, ?_, ?_, ?_, ?_, ?_, Dg.cons hgV dq, HZL, hbu6.other (Ne.symm hqu.symm) _, hbv6.other hqv _, hq2, hbw6.other hqw _, hbel6.setCell (by omega) _⟩
              · show _ = _
                rw [List.length_append, List.length_append, List.length_take, List.length_drop, HZL.out]; omega
              · exact (dr.take j).append (dz.append (dr.drop _))
              · show _ = _
                rw [List.take_append_of_le_length (by rw [List.length_take]; omega), List.take_take, Nat.min_self]
                have e := congrArg (List.take j) hrt.out
                rw [List.take_take, List.take_take, Nat.min_eq_left (by omega)] at e
                exact e
              · show _ < _
                rw [hd2]; exact hzD.1
              · show _ = _
                have hj1 : j < rs.length := by omega
                have hj2 : j < us.length := by rw [HUL.out]; omega
                have e1 := val_drop 4294967296 rs j hj1
                have e2 := val_drop 4294967296 us j hj2
                have e3 : rs[j] = us[j] := by
                  have e := hrt.out
                  rw [take_snoc _ _ hj1, take_snoc _ _ hj2] at e
                  exact (List.cons.inj (List.append_inj' e rfl).2).1
                have e4 := hrv.out
                have e5 := hzD.2
                have e6 := HQ1.out
                rw [hd2, e2, ← e4, Nat.mul_add, ← e3, val, Nat.add_mul, Nat.mul_assoc]
                omega
              · show _ = _
                have := hql.out
                rw [List.length_cons]; omega
            case measure => simp [intOf]
          · have HLE := mkHid hle
            have hg0 : 0 < g := by
              rcases Nat.eq_zero_or_pos g with h | h
              · rw [h, Nat.zero_mul] at hle; exact absurd (Nat.zero_le _) hle
              · exact h
            have hgb2 : Hid (val 4294967296 (seg rs j (n2 + 1)) / val 4294967296 (vs.take n2) ≤ g - 1) := by
              have h3 : val 4294967296 (seg rs j (n2 + 1)) / val 4294967296 (vs.take n2) < g := by
                rw [Nat.div_lt_iff_lt_mul (by rw [vD.out]; exact HD0.out)]; omega
              show _ ≤ _
              omega
            obtain ⟨g', hg'⟩ : ∃ g', g' = g - 1 := ⟨_, rfl⟩
            have e8 : IntKind.u64.wrap ((g : Int) - 1) = (g' : Int) := by rw [IntKind.wrap_u64]; omega
            have hg'V : g' < 4294967296 := by omega
            have hg'g : g' < g := by omega
            rw [← hg'] at hgb2
            clear hle hg'
            go_upto_region 19 with (first
              | (go_at_call 64; (with_reducible refine hls.out.mono ?_); rintro e w6 ⟨zs, rfl, hzl, dz, hzv, hbu6, hbv6, hbw6, ho6⟩; rw [decide_eq_false HLE.out]))
            rw [if_neg HLE.out] at hbu6
            have HZL := mkHid hzl
            have hbq6 := hbq.only2 ho6 hqu hqw
            have hbel6 := hbel.trans (ho6.below w1.heap.size hBu hBw1 hbel.size)
            clear hbu hbv hbw hbq hbel ho6 hzv hzl hls
            go_wp2
            go_roundw
            case rel => exact ⟨g', zs, rfl, hg'V, hgb2, HZL, hbu6, hbv6, hbq6, hbw6, hbel6⟩
            case measure => simp [intOf]; omega

/-- baileyref1.Quo, by a number that is not 0 -/
theorem rquo_any {a1 a2 : Option Addr} {n1 c1 n2 c2 u v : Nat} {w : World} (h1 : Sl .u64 w a1 n1 c1 (dig 4294967296 u)) (h2 : Sl .u64 w a2 n2 c2 (dig 4294967296 v)) (hn1 : n1 ≤ 1048576) (h0 : 0 < v) :
    Calls Tryd.prog 50 #[.slice a1 n1 c1, .slice a2 n2 c2] w (GivesRR w (u / v) (u % v)) := by
  by_cases hlt : u < v
  · exact rquo_less h1 h2 (by omega) hlt
  · have hn : 0 < n2 := by
      rw [← h2.len, lt_dig_length _ (by omega), Nat.pow_zero]; exact h0
    by_cases h : n2 = 1
    · subst h
      exact rquo_one h1 h2 (by omega) (by omega)
    · exact rquo_big h1 h2 hn1 (by omega) (by omega)

end Go.Proofs.YtaeamlldocbeeaaDoor
