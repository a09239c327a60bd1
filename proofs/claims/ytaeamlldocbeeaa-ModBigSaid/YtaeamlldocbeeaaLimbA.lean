/- LimbA: Limb1, Limb2, Limb3, Limb4. -/
import Derived.Test.YtaeamlldocbeeaaBits

/- limb: trim, made, Of, Norm, Cmp. -/

namespace Go.Proofs.Ytaeamlldocbeeaa
open Go.RowKit Num

theorem trim_any {a : Option Addr} {n c : Nat} {xs : List Nat} {w : World} (h : Sl .u64 w a n c xs) :
    Calls Try.prog 59 #[.slice a n c] w fun e w' => e = .returned (.slice a (tlen xs) c) ∧ w = w' := by
  cases a with
  | none =>
    obtain rfl : c = 0 := h.nil rfl
    obtain rfl : n = 0 := by have := h.le; omega
    obtain rfl : xs = [] := List.eq_nil_of_length_eq_zero h.len
    clear h
    go_enter Try.func59, Try.ntmps59
    go_wp2
    refine wp_loop_once ?_
    go_wp2
    go_ret
    exact ⟨rfl, rfl⟩
  | some p =>
    by_cases hc0 : c = 0
    · subst hc0
      obtain rfl : n = 0 := by have := h.le; omega
      obtain rfl : xs = [] := List.eq_nil_of_length_eq_zero h.len
      clear h
      go_enter Try.func59, Try.ntmps59
      go_wp2
      refine wp_loop_once ?_
      go_wp2
      go_ret
      exact ⟨rfl, rfl⟩
    obtain ⟨b, o, s⟩ := p
    have hs := h.spot _ rfl (by omega)
    simp at hs
    subst hs
    have hm := h.cap
    have hc := h.le
    have HN := mkHid h.len
    have HR := mkHid h
    clear h
    go_enter Try.func59, Try.ntmps59
    go_wp2
    go_loop [3] (fun i => ∃ k : Nat, k ≤ n ∧ i = .int .i64 k ∧ Hid (tlen xs = tlen (xs.take k))) (fun i => (intOf i).toNat)
    case atStart => exact ⟨n, Nat.le_refl _, rfl, by show tlen xs = _; rw [List.take_of_length_le (by rw [HN.out]; exact Nat.le_refl _)]⟩
    case round =>
      obtain ⟨k, hk, rfl, ht⟩ := hrel
      by_cases h0 : 0 < k
      · obtain ⟨j, rfl⟩ : ∃ j, k = j + 1 := ⟨k - 1, by omega⟩
        have hj : j < xs.length := by rw [HN.out]; omega
        have hx := HR.out.cell j hj
        generalize hxv : xs[j] = x at hx
        have HX := mkHid hxv
        clear hxv
        by_cases hz : x = 0
        · have hb : ((x : Int) == 0) = true := by simp [hz]
          have HZ := mkHid hz
          clear hz
          go_wp2
          go_round
          case rel => exact ⟨j, by omega, by go_num, by show tlen xs = _; rw [ht.out]; exact tlen_take _ _ hj (HX.out.trans HZ.out)⟩
          case measure => simp [intOf]
        · have hb : ((x : Int) == 0) = false := by simp [hz]
          have HZ := mkHid hz
          clear hz
          go_wp2
          go_ret
          refine ⟨?_, rfl⟩
          rw [ht.out, tlen_ne _ _ hj (by rw [HX.out]; exact HZ.out)]
          rfl
      · obtain rfl : k = 0 := by omega
        go_wp2
        go_ret
        refine ⟨?_, rfl⟩
        rw [ht.out]; rfl

/-- a trimmed slice reads the canonical digits -/
theorem Sl.trim {w : World} {a : Option Addr} {n c : Nat} {xs : List Nat} (h : Sl .u64 w a n c xs) (hd : Dg 18446744073709551616 xs) :
    Sl .u64 w a (tlen xs) c (dig 18446744073709551616 (val 18446744073709551616 xs)) := by
  rw [dig_val _ (by omega) hd]
  exact h.take _ (by rw [← h.len]; exact tlen_le xs)

theorem Own.trim {T : TypeId} {B : Nat} {w : World} {a : Option Addr} {n c : Nat} {xs : List Nat} (h : Own .u64 T B w a n c xs) (hd : Dg 18446744073709551616 xs) :
    Own .u64 T B w a (tlen xs) c (dig 18446744073709551616 (val 18446744073709551616 xs)) := by
  rw [dig_val _ (by omega) hd]
  exact h.take _ (by rw [← h.len]; exact tlen_le xs)

/-- limb.trim, of a number: its canonical digits, the memory as it was -/
theorem trim_sl {a : Option Addr} {n c : Nat} {xs : List Nat} {w : World} (h : Sl .u64 w a n c xs) (hd : Dg 18446744073709551616 xs) :
    Calls Try.prog 59 #[.slice a n c] w fun e w' => ∃ m, e = .returned (.slice a m c) ∧ m ≤ n ∧ Sl .u64 w a m c (dig 18446744073709551616 (val 18446744073709551616 xs)) ∧ w = w' :=
  (trim_any h).mono fun _ _ ⟨he, hw⟩ => ⟨_, he, by rw [← h.len]; exact tlen_le xs, h.trim hd, hw⟩

theorem trim_own {T B : Nat} {a : Option Addr} {n c : Nat} {xs : List Nat} {w : World} (h : Own .u64 T B w a n c xs) (hd : Dg 18446744073709551616 xs) :
    Calls Try.prog 59 #[.slice a n c] w fun e w' => ∃ m, e = .returned (.slice a m c) ∧ m ≤ n ∧ Own .u64 T B w a m c (dig 18446744073709551616 (val 18446744073709551616 xs)) ∧ w = w' :=
  (trim_any h.sl).mono fun _ _ ⟨he, hw⟩ => ⟨_, he, by rw [← h.len]; exact tlen_le xs, h.trim hd, hw⟩

end Go.Proofs.Ytaeamlldocbeeaa

/- limb: made, Of, Norm, Cmp. -/

namespace Go.Proofs.Ytaeamlldocbeeaa
open Go.RowKit Num

theorem made_any {a : Option Addr} {n c : Nat} {xs : List Nat} {w : World} (h : Sl .u64 w a n c xs) (hd : Dg 18446744073709551616 xs) (hn : n ≤ 1099511627776) :
    Calls Try.prog 60 #[.slice a n c] w (Gives .u64 54 w (dig 18446744073709551616 (val 18446744073709551616 xs))) := by
  go_enter Try.func60, Try.ntmps60
  go_wp2_with (first
    | (go_at_call 59; refine (trim_sl h hd).mono ?_; rintro e w' ⟨m, rfl, hm, hs, rfl⟩)
    | (at_builtin; refine wpList_app rfl (.const (.slice none 0 0)) (.tmp 4) 23 rfl 54 .u64 8 under_nat info_u64 w.heap.size none 0 0 [] rfl (Own.nilOwn _ _ _ _) _ _ _ _ rfl hs (by omega) (by omega) (Nat.le_refl _) ?_; intro a3 c3 w3 ho hb))
  go_ret
  exact ⟨_, _, _, rfl, by simpa using ho, hb⟩

theorem norm_any {a : Option Addr} {n c : Nat} {xs : List Nat} {w : World} (h : Sl .u64 w a n c xs) (hd : Dg 18446744073709551616 xs) (hn : n ≤ 1099511627776) :
    Calls Try.prog 37 #[.slice a n c] w (Gives .u64 54 w (dig 18446744073709551616 (val 18446744073709551616 xs))) := by
  go_enter Try.func37, Try.ntmps37
  go_wp2_with (go_at_call 60; refine (made_any h hd hn).mono ?_; rintro e w' ⟨a1, n1, c1, rfl, ho, hb⟩)
  go_ret
  exact ⟨_, _, _, rfl, ho, hb⟩

/-- order as the program tells it -/
def cmpI (a b : Nat) : Int := if a < b then -1 else if a = b then 0 else 1

theorem cmp_any {a1 a2 : Option Addr} {n1 c1 n2 c2 : Nat} {xs ys : List Nat} {w : World} (h1 : Sl .u64 w a1 n1 c1 xs) (h2 : Sl .u64 w a2 n2 c2 ys) (hd1 : Dg 18446744073709551616 xs) (hd2 : Dg 18446744073709551616 ys)
    (hn1 : n1 ≤ 1099511627776) :
    Calls Try.prog 36 #[.slice a1 n1 c1, .slice a2 n2 c2] w (GivesInt .i64 w (cmpI (val 18446744073709551616 xs) (val 18446744073709551616 ys))) := by
  go_enter Try.func36, Try.ntmps36
  go_wp2_with (first
    | (go_at_call 59; (with_reducible refine (trim_sl h1 hd1).mono ?_); rintro e w' ⟨m1, rfl, hm1, hs1, rfl⟩)
    | (go_at_call 59; (with_reducible refine (trim_sl h2 hd2).mono ?_); rintro e w' ⟨m2, rfl, hm2, hs2, rfl⟩))
  · have hlt : m1 < m2 := by assumption
    have h3 := val_lt_of_length (n := val 18446744073709551616 ys) (Dg.dig 18446744073709551616 (by omega) (val 18446744073709551616 xs)) (by omega) rfl (by rw [hs1.len, hs2.len]; exact hlt)
    rw [val_dig _ (by omega)] at h3
    go_ret
    refine ⟨ret1 ?_, Below.refl _ _⟩
    unfold cmpI
    rw [if_pos h3]
  · have hlt : ¬ m1 < m2 := by assumption
    have hne : ((m1 : Int) != (m2 : Int)) = true := by assumption
    have hne' := nat_ne_of hne
    have h3 := val_lt_of_length (n := val 18446744073709551616 xs) (Dg.dig 18446744073709551616 (by omega) (val 18446744073709551616 ys)) (by omega) rfl (by rw [hs1.len, hs2.len]; omega)
    rw [val_dig _ (by omega)] at h3
    go_ret
    refine ⟨ret1 ?_, Below.refl _ _⟩
    unfold cmpI
    rw [if_neg (by omega), if_neg (by omega)]
  · have hne : ((m1 : Int) != (m2 : Int)) = false := by assumption
    have he := mkHid (nat_eq_of hne)
    rw [hne]
    clear hne
    obtain rfl := he.out
    go_loopw [5] (fun i wr => ∃ k : Nat, k ≤ m1 ∧ i = .int .i64 ((k : Int) - 1) ∧ Hid ((dig 18446744073709551616 (val 18446744073709551616 xs)).drop k = (dig 18446744073709551616 (val 18446744073709551616 ys)).drop k) ∧ Below w.heap.size w wr) (fun i _ => (intOf i + 1).toNat)
    case atStart =>
      refine ⟨m1, Nat.le_refl _, rfl, ?_, Below.refl _ _⟩
      show _ = _
      rw [List.drop_of_length_le (by rw [hs1.len]; exact Nat.le_refl _), List.drop_of_length_le (by rw [hs2.len]; exact Nat.le_refl _)]
    case round =>
      obtain ⟨k, hk, rfl, hX, hb⟩ := hrel
      cases k with
      | zero =>
        rw [show ((0 : Nat) : Int) - 1 = -1 from rfl]
        go_wp2
        go_ret
        refine ⟨ret1 ?_, hb⟩
        have e := hX.out
        simp only [List.drop_zero] at e
        have e2 := dig_inj _ (by omega) e
        unfold cmpI
        rw [if_neg (by omega), if_pos e2]
      | succ j =>
        rw [show ((j + 1 : Nat) : Int) - 1 = (j : Int) by omega]
        obtain ⟨b1, o1, x, rfl, hc1, hx⟩ := (hs1.keep hb).get j (by omega)
        obtain ⟨b2, o2, y, rfl, hc2, hy⟩ := (hs2.keep hb).get j (by omega)
        by_cases hxy : x = y
        · have hq := bne_f hxy
          have HXY := mkHid hxy
          clear hxy
          go_wp2
          go_quiet (fail)
          go_wp2
          go_roundw
          case rel =>
            refine ⟨j, by omega, by go_num, ?_, by exact hb.trans ⟨rfl, rfl, rfl, Nat.le_refl _, fun _ _ => rfl⟩⟩
            obtain ⟨i1, e1⟩ := hx.out
            obtain ⟨i2, e2⟩ := hy.out
            show _ = _
            rw [List.drop_eq_getElem_cons i1, List.drop_eq_getElem_cons i2, hX.out, e1, e2, HXY.out]
          case measure => simp [intOf]
        · have hq := bne_t hxy
          have HXY := mkHid hxy
          clear hxy
          obtain ⟨i1, e1⟩ := hx.out
          obtain ⟨i2, e2⟩ := hy.out
          have HX := mkHid e1
          have HY := mkHid e2
          clear e1 e2
          have hd := hX.out
          have HD := mkHid hd
          clear hd
          by_cases hlt : x < y
          · have hv : val 18446744073709551616 xs < val 18446744073709551616 ys := by
              have := val_cmp_aux (Dg.dig 18446744073709551616 (by omega) (val 18446744073709551616 xs)) (Dg.dig 18446744073709551616 (by omega) (val 18446744073709551616 ys)) j i1 i2 (by rw [hs1.len, hs2.len]) HD.out (by rw [HX.out, HY.out]; exact hlt)
              rwa [val_dig _ (by omega), val_dig _ (by omega)] at this
            go_wp2
            go_quiet (fail)
            go_wp2
            go_quiet (fail)
            go_wp2
            go_ret
            refine ⟨ret1 ?_, by exact hb.trans ⟨rfl, rfl, rfl, Nat.le_refl _, fun _ _ => rfl⟩⟩
            unfold cmpI
            rw [if_pos hv]
          · have hv : val 18446744073709551616 ys < val 18446744073709551616 xs := by
              have := val_cmp_aux (Dg.dig 18446744073709551616 (by omega) (val 18446744073709551616 ys)) (Dg.dig 18446744073709551616 (by omega) (val 18446744073709551616 xs)) j i2 i1 (by rw [hs1.len, hs2.len]) HD.out.symm (by rw [HX.out, HY.out]; have := HXY.out; omega)
              rwa [val_dig _ (by omega), val_dig _ (by omega)] at this
            go_wp2
            go_quiet (fail)
            go_wp2
            go_quiet (fail)
            go_wp2
            go_ret
            refine ⟨ret1 ?_, by exact hb.trans ⟨rfl, rfl, rfl, Nat.le_refl _, fun _ _ => rfl⟩⟩
            unfold cmpI
            rw [if_neg (by omega), if_neg (by omega)]

end Go.Proofs.Ytaeamlldocbeeaa

/- limb: Add, Sub. -/

namespace Go.Proofs.Ytaeamlldocbeeaa
open Go.RowKit Num

theorem add_any {a1 a2 : Option Addr} {n1 c1 n2 c2 : Nat} {xs ys : List Nat} {w : World} (h1 : Sl .u64 w a1 n1 c1 xs) (h2 : Sl .u64 w a2 n2 c2 ys) (hd1 : Dg 18446744073709551616 xs) (hd2 : Dg 18446744073709551616 ys)
    (hn1 : n1 ≤ 1099511627776) (hn2 : n2 ≤ 1099511627776) :
    Calls Try.prog 35 #[.slice a1 n1 c1, .slice a2 n2 c2] w (Gives .u64 54 w (dig 18446744073709551616 (val 18446744073709551616 xs + val 18446744073709551616 ys))) := by
  go_enter Try.func35, Try.ntmps35
  go_upto_if 17 with (first
    | (go_at_call 59; (with_reducible refine (trim_sl h1 hd1).mono ?_); rintro e w' ⟨m1, rfl, hm1, hs1, rfl⟩)
    | (go_at_call 59; (with_reducible refine (trim_sl h2 hd2).mono ?_); rintro e w' ⟨m2, rfl, hm2, hs2, rfl⟩))
  go_cut [0, 1] (fun v0 v1 wc => ∃ p1 k1 d1 X p2 k2 d2 Y, v0 = .slice p1 k1 d1 ∧ v1 = .slice p2 k2 d2 ∧ Sl .u64 w p1 k1 d1 X ∧ Sl .u64 w p2 k2 d2 Y ∧ Dg 18446744073709551616 X ∧ Dg 18446744073709551616 Y ∧
    Hid (val 18446744073709551616 X + val 18446744073709551616 Y = val 18446744073709551616 xs + val 18446744073709551616 ys) ∧ k2 ≤ k1 ∧ k1 ≤ 1099511627776 ∧ w = wc)
  case first =>
    by_cases hlt : m1 < m2
    · go_wp2
      go_meet
      case rel => exact ⟨_, _, _, _, _, _, _, _, rfl, rfl, hs2, hs1, Dg.dig _ (by omega) _, Dg.dig _ (by omega) _, by show _ = _; rw [val_dig _ (by omega), val_dig _ (by omega)]; omega, by omega, by omega, rfl⟩
    · go_wp2
      go_meet
      case rel => exact ⟨_, _, _, _, _, _, _, _, rfl, rfl, hs1, hs2, Dg.dig _ (by omega) _, Dg.dig _ (by omega) _, by show _ = _; rw [val_dig _ (by omega), val_dig _ (by omega)], by omega, by omega, rfl⟩
  case rest =>
    obtain ⟨p1, k1, d1, X, p2, k2, d2, Y, rfl, rfl, hX, hY, dX, dY, hS, hk, hk1, rfl⟩ := hcut
    clear h1 h2 hs1 hs2 hd1 hd2
    go_wp2_with (at_make; refine wpList_mk rfl _ _ _ rfl 54 .u64 8 under_nat info_u64 (k1 + 1) rfl rfl (by omega) (by omega) (by omega) (by omega) ?_; intro b w1 hB hblk hbel)
    go_loopw [6, 26] (fun cv iv wr => ∃ (i c : Nat) (zs : List Nat), i ≤ k1 ∧ c ≤ 1 ∧ cv = .int .u64 c ∧ iv = .int .i64 i ∧ Hid (zs.length = i) ∧ Dg 18446744073709551616 zs ∧
      Hid (val 18446744073709551616 zs + 18446744073709551616 ^ i * c = val 18446744073709551616 (X.take i) + val 18446744073709551616 (Y.take i)) ∧ Blk wr b .u64 54 (zs ++ List.replicate (k1 + 1 - i) 0) ∧ Below w.heap.size w wr) (fun _ iv _ => k1 - (intOf iv).toNat)
    case atStart => exact ⟨0, 0, [], Nat.zero_le _, Nat.zero_le _, rfl, rfl, rfl, Dg.nil, rfl, by simpa using hblk, hbel⟩
    case round =>
      obtain ⟨i, c, zs, hi, hc, rfl, rfl, hz, dz, hv, hblk, hbel⟩ := hrel
      by_cases hlt : i < k1
      · obtain ⟨b1, o1, x, rfl, hcx, hx⟩ := (hX.keep hbel).get i hlt
        obtain ⟨z0, hcb, hfb, _⟩ := hblk.get i (by rw [length_grow zs i (k1 + 1) 0 hz.out (by omega)]; omega)
        have hxW : x < 18446744073709551616 := by obtain ⟨h, e⟩ := hx.out; rw [← e]; exact dX.at i h
        by_cases hy : i < k2
        · obtain ⟨b2, o2, y, rfl, hcy, hy'⟩ := (hY.keep hbel).get i hy
          have hyW : y < 18446744073709551616 := by obtain ⟨h, e⟩ := hy'.out; rw [← e]; exact dY.at i h
          obtain ⟨s, hs⟩ : ∃ s, s = (x + y + c) % 18446744073709551616 := ⟨_, rfl⟩
          obtain ⟨k, hk'⟩ : ∃ k, k = (x + y + c) / 18446744073709551616 := ⟨_, rfl⟩
          have ha := add64_run x y c hxW hyW hc s k hs hk'
          have HS := mkHid hs
          have HK := mkHid hk'
          clear hs hk'
          go_wp2
          go_roundw
          case rel =>
            refine ⟨i + 1, k, zs ++ [s], by omega, by have := HK.out; omega, rfl, by go_num, ?_, dz.snoc (by rw [HS.out]; exact Nat.mod_lt _ (by omega)), ?_, ?_, hbel.setCell hB _⟩
            · show _ = _
              rw [List.length_append, hz.out]; rfl
            · show _ = _
              obtain ⟨h, e⟩ := hx.out
              obtain ⟨h2, e2⟩ := hy'.out
              rw [val_snoc, hz.out, val_take_succ _ _ _ h, val_take_succ _ _ _ h2, e, e2, Nat.pow_succ]
              exact add_step _ _ _ _ _ _ _ _ _ _ hv.out HS.out HK.out
            · have := hblk.set i s
              rwa [set_grow zs i _ s 0 hz.out (by omega)] at this
          case measure => simp [intOf]; omega
        · have hyl : Y.length ≤ i := by rw [hY.len]; omega
          have HYL := mkHid hyl
          clear hyl
          obtain ⟨s, hs⟩ : ∃ s, s = (x + 0 + c) % 18446744073709551616 := ⟨_, rfl⟩
          obtain ⟨k, hk'⟩ : ∃ k, k = (x + 0 + c) / 18446744073709551616 := ⟨_, rfl⟩
          have ha := add64_run0 x c hxW hc s k hs hk'
          have HS := mkHid hs
          have HK := mkHid hk'
          clear hs hk'
          go_wp2
          go_roundw
          case rel =>
            refine ⟨i + 1, k, zs ++ [s], by omega, by have := HK.out; omega, rfl, by go_num, ?_, dz.snoc (by rw [HS.out]; exact Nat.mod_lt _ (by omega)), ?_, ?_, hbel.setCell hB _⟩
            · show _ = _
              rw [List.length_append, hz.out]; rfl
            · show _ = _
              obtain ⟨h, e⟩ := hx.out
              have e2 := val_take_getD 18446744073709551616 Y i
              rw [show Y.getD i 0 = 0 by simp [List.getD, HYL.out]] at e2
              rw [val_snoc, hz.out, val_take_succ _ _ _ h, e, e2, Nat.pow_succ]
              exact add_step _ _ _ _ _ _ _ _ _ _ hv.out HS.out HK.out
            · have := hblk.set i s
              rwa [set_grow zs i _ s 0 hz.out (by omega)] at this
          case measure => simp [intOf]; omega
      · obtain rfl : i = k1 := by omega
        obtain ⟨z0, hcb, hfb, _⟩ := hblk.get i (by rw [length_grow zs i (i + 1) 0 hz.out (by omega)]; omega)
        have hfin : Blk (wr.setCell ⟨b, i, none⟩ (.int .u64 (c : Int))) b .u64 54 (zs ++ [c]) := by
          have := hblk.set i c
          rw [set_grow zs i _ c 0 hz.out (by omega), Nat.sub_self, List.replicate_zero, List.append_nil] at this
          exact this
        have hown := Own.ofBlk hfin hB (i + 1) (by rw [List.length_append, hz.out]; rfl) (by omega)
        have dfin : Dg 18446744073709551616 (zs ++ [c]) := dz.snoc (by omega)
        have hval : Hid (val 18446744073709551616 (zs ++ [c]) = val 18446744073709551616 xs + val 18446744073709551616 ys) := by
          show _ = _
          have e1 := hv.out
          rw [List.take_of_length_le (by rw [hX.len]; omega), List.take_of_length_le (by rw [hY.len]; omega)] at e1
          rw [val_snoc, hz.out, e1]; exact hS.out
        have hbf := hbel.setCell (p := ⟨b, i, none⟩) hB (.int .u64 (c : Int))
        clear hblk hv hfin
        go_wp2_with (go_at_call 59; (with_reducible refine (trim_own hown dfin).mono ?_); rintro e w' ⟨m, rfl, hm, ho, rfl⟩)
        go_ret
        exact ⟨_, _, _, rfl, by rw [← hval.out]; exact ho, hbf⟩

theorem sub_any {a1 a2 : Option Addr} {n1 c1 n2 c2 : Nat} {xs ys : List Nat} {w : World} (h1 : Sl .u64 w a1 n1 c1 xs) (h2 : Sl .u64 w a2 n2 c2 ys) (hd1 : Dg 18446744073709551616 xs) (hd2 : Dg 18446744073709551616 ys)
    (hn1 : n1 ≤ 1099511627776) (_hn2 : n2 ≤ 1099511627776) :
    Calls Try.prog 38 #[.slice a1 n1 c1, .slice a2 n2 c2] w (GivesB .u64 54 w (decide (val 18446744073709551616 ys ≤ val 18446744073709551616 xs)) (dig 18446744073709551616 (val 18446744073709551616 xs - val 18446744073709551616 ys))) := by
  go_enter Try.func38, Try.ntmps38
  go_upto_if 17 with (first
    | (go_at_call 59; (with_reducible refine (trim_sl h1 hd1).mono ?_); rintro e w' ⟨k1, rfl, hm1, hX, rfl⟩)
    | (go_at_call 59; (with_reducible refine (trim_sl h2 hd2).mono ?_); rintro e w' ⟨k2, rfl, hm2, hY, rfl⟩)
    | (go_at_call 36; (with_reducible refine (cmp_any hX hY (Dg.dig _ (by omega) _) (Dg.dig _ (by omega) _) (by omega)).mono ?_); rintro e w1 ⟨rfl, hb1⟩))
  rw [val_dig _ (by omega), val_dig _ (by omega)]
  by_cases hvv : val 18446744073709551616 xs < val 18446744073709551616 ys
  · have hc : decide (cmpI (val 18446744073709551616 xs) (val 18446744073709551616 ys) < 0) = true := by
      unfold cmpI; rw [if_pos hvv]; decide
    rw [hc]
    clear hc
    go_wp2
    go_ret2
    refine ⟨none, 0, 0, ?_, ?_, hb1⟩
    · rw [decide_eq_false (by omega)]; rfl
    · rw [show val 18446744073709551616 xs - val 18446744073709551616 ys = 0 by omega]
      exact Own.nilOwn _ _ _ _
  · have hc : decide (cmpI (val 18446744073709551616 xs) (val 18446744073709551616 ys) < 0) = false := by
      unfold cmpI; rw [if_neg hvv]; split <;> decide
    rw [hc]
    clear hc
    have hk21 : k2 ≤ k1 := by
      rw [← hX.len, ← hY.len]
      exact dig_length_mono _ (by omega) (by omega)
    have vX := mkHid (val_dig 18446744073709551616 (by omega) (val 18446744073709551616 xs))
    have vY := mkHid (val_dig 18446744073709551616 (by omega) (val 18446744073709551616 ys))
    have dX := Dg.dig 18446744073709551616 (by omega) (val 18446744073709551616 xs)
    have dY := Dg.dig 18446744073709551616 (by omega) (val 18446744073709551616 ys)
    have hX := hX.keep hb1
    have hY := hY.keep hb1
    generalize dig 18446744073709551616 (val 18446744073709551616 xs) = X at *
    generalize dig 18446744073709551616 (val 18446744073709551616 ys) = Y at *
    clear h1 h2 hd1 hd2
    go_wp2_with (at_make; refine wpList_mk rfl _ _ _ rfl 54 .u64 8 under_nat info_u64 k1 rfl rfl (by omega) (by omega) (by omega) (by omega) ?_; intro b w2 hB hblk hbel)
    go_loopw [7, 23] (fun cv iv wr => ∃ (i c : Nat) (zs : List Nat), i ≤ k1 ∧ c ≤ 1 ∧ cv = .int .u64 c ∧ iv = .int .i64 i ∧ Hid (zs.length = i) ∧ Dg 18446744073709551616 zs ∧
      Hid (val 18446744073709551616 zs + val 18446744073709551616 (Y.take i) = val 18446744073709551616 (X.take i) + 18446744073709551616 ^ i * c) ∧ Blk wr b .u64 54 (zs ++ List.replicate (k1 - i) 0) ∧ Below w1.heap.size w1 wr) (fun _ iv _ => k1 - (intOf iv).toNat)
    case atStart => exact ⟨0, 0, [], Nat.zero_le _, Nat.zero_le _, rfl, rfl, rfl, Dg.nil, rfl, by simpa using hblk, hbel⟩
    case round =>
      obtain ⟨i, c, zs, hi, hc, rfl, rfl, hz, dz, hv, hblk, hbel⟩ := hrel
      by_cases hlt : i < k1
      · obtain ⟨b1, o1, x, rfl, hcx, hx⟩ := (hX.keep hbel).get i hlt
        obtain ⟨z0, hcb, hfb, _⟩ := hblk.get i (by rw [length_grow zs i k1 0 hz.out (by omega)]; omega)
        have hxW : x < 18446744073709551616 := by obtain ⟨h, e⟩ := hx.out; rw [← e]; exact dX.at i h
        by_cases hy : i < k2
        · obtain ⟨b2, o2, y, rfl, hcy, hy'⟩ := (hY.keep hbel).get i hy
          have hyW : y < 18446744073709551616 := by obtain ⟨h, e⟩ := hy'.out; rw [← e]; exact dY.at i h
          obtain ⟨s, hs⟩ : ∃ s, s = (x + 18446744073709551616 - y - c) % 18446744073709551616 := ⟨_, rfl⟩
          obtain ⟨k, hk'⟩ : ∃ k, k = if x < y + c then 1 else 0 := ⟨_, rfl⟩
          have ha := sub64_run x y c hxW hyW hc s k hs hk'
          have hkl : k ≤ 1 := by rw [hk']; split <;> omega
          have HS := mkHid hs
          have HK := mkHid hk'
          clear hs hk'
          go_wp2
          go_roundw
          case rel =>
            refine ⟨i + 1, k, zs ++ [s], by omega, hkl, rfl, by go_num, ?_, dz.snoc (by rw [HS.out]; exact Nat.mod_lt _ (by omega)), ?_, ?_, hbel.setCell hB _⟩
            · show _ = _
              rw [List.length_append, hz.out]; rfl
            · show _ = _
              obtain ⟨h, e⟩ := hx.out
              obtain ⟨h2, e2⟩ := hy'.out
              rw [val_snoc, hz.out, val_take_succ _ _ _ h, val_take_succ _ _ _ h2, e, e2, Nat.pow_succ]
              exact sub_step _ _ _ _ _ _ _ _ _ _ hv.out hxW hyW hc HS.out HK.out
            · have := hblk.set i s
              rwa [set_grow zs i _ s 0 hz.out (by omega)] at this
          case measure => simp [intOf]; omega
        · have hyl : Y.length ≤ i := by rw [hY.len]; omega
          have HYL := mkHid hyl
          clear hyl
          obtain ⟨s, hs⟩ : ∃ s, s = (x + 18446744073709551616 - 0 - c) % 18446744073709551616 := ⟨_, rfl⟩
          obtain ⟨k, hk'⟩ : ∃ k, k = if x < 0 + c then 1 else 0 := ⟨_, rfl⟩
          have ha := sub64_run0 x c hxW hc s k hs hk'
          have hkl : k ≤ 1 := by rw [hk']; split <;> omega
          have HS := mkHid hs
          have HK := mkHid hk'
          clear hs hk'
          go_wp2
          go_roundw
          case rel =>
            refine ⟨i + 1, k, zs ++ [s], by omega, hkl, rfl, by go_num, ?_, dz.snoc (by rw [HS.out]; exact Nat.mod_lt _ (by omega)), ?_, ?_, hbel.setCell hB _⟩
            · show _ = _
              rw [List.length_append, hz.out]; rfl
            · show _ = _
              obtain ⟨h, e⟩ := hx.out
              have e2 := val_take_getD 18446744073709551616 Y i
              rw [show Y.getD i 0 = 0 by simp [List.getD, HYL.out]] at e2
              rw [val_snoc, hz.out, val_take_succ _ _ _ h, e, e2, Nat.pow_succ]
              exact sub_step _ _ _ _ _ _ _ _ _ _ hv.out hxW (by omega) hc HS.out HK.out
            · have := hblk.set i s
              rwa [set_grow zs i _ s 0 hz.out (by omega)] at this
          case measure => simp [intOf]; omega
      · obtain rfl : i = k1 := by omega
        rw [Nat.sub_self, List.replicate_zero, List.append_nil] at hblk
        have hown := Own.ofBlk hblk hB i hz.out (by omega)
        have hval : Hid (val 18446744073709551616 zs = val 18446744073709551616 xs - val 18446744073709551616 ys) := by
          show _ = _
          have e1 := hv.out
          rw [List.take_of_length_le (l := Y) (by rw [hY.len]; omega), List.take_of_length_le (l := X) (by rw [hX.len]; omega), vX.out, vY.out] at e1
          have e2 := val_lt dz
          rw [hz.out] at e2
          have : c = 0 := by
            rcases Nat.eq_zero_or_pos c with h | h
            · exact h
            · obtain rfl : c = 1 := by omega
              omega
          subst this
          omega
        clear hblk hv
        go_wp2_with (go_at_call 59; (with_reducible refine (trim_own hown dz).mono ?_); rintro e w' ⟨m, rfl, hm, ho, rfl⟩)
        go_ret2
        refine ⟨some ⟨b, 0, none⟩, m, i, ?_, ?_, hb1.trans (hbel.mono hb1.size)⟩
        · rw [decide_eq_true (by omega)]; rfl
        · rw [← hval.out]; exact ho.mono hb1.size

end Go.Proofs.Ytaeamlldocbeeaa

/- limb: Mul. -/

namespace Go.Proofs.Ytaeamlldocbeeaa
open Go.RowKit Num

theorem mul64_o (x y : Nat) (hx : x < 18446744073709551616) (hy : y < 18446744073709551616) (hi lo : Nat) (h1 : hi = x * y / 18446744073709551616) (h2 : lo = x * y % 18446744073709551616) (w : World) :
    Calls Try.prog 73 #[.int .u64 (x : Int), .int .u64 (y : Int)] w fun e w' =>
      e = .returned (.tuple #[.int .u64 (hi : Int), .int .u64 (lo : Int)]) ∧ w = w' := by
  subst h1; subst h2
  exact mul64_any x y hx hy w

theorem u64_in (a b : Nat) (h : a + b < 18446744073709551616) (c : Nat) (hc : c = a + b) : IntKind.u64.wrap ((a : Int) + (b : Int)) = (c : Int) := by
  rw [IntKind.wrap_u64]; omega

theorem mul_any {a1 a2 : Option Addr} {n1 c1 n2 c2 : Nat} {xs ys : List Nat} {w : World} (h1 : Sl .u64 w a1 n1 c1 xs) (h2 : Sl .u64 w a2 n2 c2 ys) (hd1 : Dg 18446744073709551616 xs) (hd2 : Dg 18446744073709551616 ys)
    (hn1 : n1 ≤ 1099511627776) (hn2 : n2 ≤ 1099511627776) :
    Calls Try.prog 34 #[.slice a1 n1 c1, .slice a2 n2 c2] w (Gives .u64 54 w (dig 18446744073709551616 (val 18446744073709551616 xs * val 18446744073709551616 ys))) := by
  go_enter Try.func34, Try.ntmps34
  go_wp2_with (first
    | (go_at_call 59; (with_reducible refine (trim_sl h1 hd1).mono ?_); rintro e w' ⟨k1, rfl, hm1, hX, rfl⟩)
    | (go_at_call 59; (with_reducible refine (trim_sl h2 hd2).mono ?_); rintro e w' ⟨k2, rfl, hm2, hY, rfl⟩)
    | (at_make; refine wpList_mk rfl _ _ _ rfl 54 .u64 8 under_nat info_u64 (k1 + k2) rfl rfl (by omega) (by omega) (by omega) (by omega) ?_; intro b w2 hB hblk hbel))
  have vX := mkHid (val_dig 18446744073709551616 (by omega) (val 18446744073709551616 xs))
  have vY := mkHid (val_dig 18446744073709551616 (by omega) (val 18446744073709551616 ys))
  have dX := Dg.dig 18446744073709551616 (by omega) (val 18446744073709551616 xs)
  have dY := Dg.dig 18446744073709551616 (by omega) (val 18446744073709551616 ys)
  generalize dig 18446744073709551616 (val 18446744073709551616 xs) = X at *
  generalize dig 18446744073709551616 (val 18446744073709551616 ys) = Y at *
  clear h1 h2 hd1 hd2
  go_loopw [26] (fun iv wr => ∃ (i : Nat) (zs : List Nat), i ≤ k1 ∧ iv = .int .i64 i ∧ Hid (zs.length = k1 + k2) ∧ Dg 18446744073709551616 zs ∧
      Hid (val 18446744073709551616 zs = val 18446744073709551616 (X.take i) * val 18446744073709551616 Y) ∧ Hid (∀ p, i + k2 ≤ p → zs.getD p 0 = 0) ∧ Blk wr b .u64 54 zs ∧ Below w.heap.size w wr) (fun iv _ => k1 - (intOf iv).toNat)
  case atStart =>
    refine ⟨0, _, Nat.zero_le _, rfl, ?_, Dg.replicate (by omega) _, ?_, ?_, hblk, hbel⟩
    · show _ = _
      simp
    · show _ = _
      simp [val_replicate, val]
    · intro p _
      simp [List.getD, List.getElem?_replicate]
      split <;> rfl
  case round =>
    clear hblk hbel
    obtain ⟨i, zs, hi, rfl, hz, dz, hv, h0, hblk, hbel⟩ := hrel
    obtain ⟨wo, hwo⟩ : ∃ wo, wo = wr := ⟨_, rfl⟩
    subst hwo
    by_cases hlt : i < k1
    · obtain ⟨b1, o1, x, rfl, hcx, hx⟩ := (hX.keep hbel).get i hlt
      have hxW : x < 18446744073709551616 := by obtain ⟨h, e⟩ := hx.out; rw [← e]; exact dX.at i h
      go_wp2
      go_loopw [8, 33] (fun cv jv wr => ∃ (j c : Nat) (us : List Nat), j ≤ k2 ∧ c < 18446744073709551616 ∧ cv = .int .u64 c ∧ jv = .int .i64 j ∧ Hid (us.length = k1 + k2) ∧ Dg 18446744073709551616 us ∧
        Hid (val 18446744073709551616 us + 18446744073709551616 ^ (i + j) * c = val 18446744073709551616 zs + 18446744073709551616 ^ i * (x * val 18446744073709551616 (Y.take j))) ∧ Hid (∀ p, i + k2 ≤ p → us.getD p 0 = 0) ∧ Blk wr b .u64 54 us ∧ Below w.heap.size w wr) (fun _ jv _ => k2 - (intOf jv).toNat)
      case atStart =>
        exact ⟨0, 0, zs, Nat.zero_le _, by omega, rfl, rfl, hz, dz, by show _ = _; simp [val], h0, hblk, hbel⟩
      case round =>
        clear hblk hbel
        obtain ⟨j, c, us, hj, hc, rfl, rfl, hu, du, hv2, h2, hblk, hbel⟩ := hrel
        by_cases hlt2 : j < k2
        · obtain ⟨b2, o2, y, rfl, hcy, hy⟩ := (hY.keep hbel).get j hlt2
          have hyW : y < 18446744073709551616 := by obtain ⟨h, e⟩ := hy.out; rw [← e]; exact dY.at j h
          obtain ⟨o, hco, hfo, ho⟩ := hblk.get (i + j) (by rw [hu.out]; omega)
          have hoW : o < 18446744073709551616 := by obtain ⟨h, e⟩ := ho.out; rw [← e]; exact du.at _ h
          obtain ⟨hi', h1⟩ : ∃ hi, hi = x * y / 18446744073709551616 := ⟨_, rfl⟩
          obtain ⟨lo, h2'⟩ : ∃ lo, lo = x * y % 18446744073709551616 := ⟨_, rfl⟩
          obtain ⟨l1, h3⟩ : ∃ l1, l1 = (lo + o + 0) % 18446744073709551616 := ⟨_, rfl⟩
          obtain ⟨q1, h4⟩ : ∃ q1, q1 = (lo + o + 0) / 18446744073709551616 := ⟨_, rfl⟩
          obtain ⟨l2, h5⟩ : ∃ l2, l2 = (l1 + c + 0) % 18446744073709551616 := ⟨_, rfl⟩
          obtain ⟨q2, h6⟩ : ∃ q2, q2 = (l1 + c + 0) / 18446744073709551616 := ⟨_, rfl⟩
          obtain ⟨he, hk⟩ := mul_place 18446744073709551616 x y o c hi' lo l1 q1 l2 q2 hxW hyW hoW hc h1 h2' h3 h4 h5 h6
          have hloW : lo < 18446744073709551616 := by rw [h2']; exact Nat.mod_lt _ (by omega)
          have hl1W : l1 < 18446744073709551616 := by rw [h3]; exact Nat.mod_lt _ (by omega)
          have hl2W : l2 < 18446744073709551616 := by rw [h5]; exact Nat.mod_lt _ (by omega)
          have m1 := mul64_o x y hxW hyW hi' lo h1 h2'
          have a1' := add64_run00 lo o hloW hoW l1 q1 h3 h4
          have a2' := add64_run00 l1 c hl1W hc l2 q2 h5 h6
          obtain ⟨t1, ht1⟩ : ∃ t1, t1 = hi' + q1 := ⟨_, rfl⟩
          obtain ⟨t2, ht2⟩ : ∃ t2, t2 = t1 + q2 := ⟨_, rfl⟩
          have w1' := u64_in hi' q1 (by omega) t1 ht1
          have w2' := u64_in t1 q2 (by omega) t2 ht2
          have hE : l2 + 18446744073709551616 * t2 = x * y + o + c := by rw [ht2, ht1]; exact he
          have htW : t2 < 18446744073709551616 := by rw [ht2, ht1]; exact hk
          have HE := mkHid hE
          have M := mkHid m1
          clear h1 h2' h3 h4 h5 h6 he hk ht1 ht2 hE m1
          go_wp2_with (go_at_call 73; (with_reducible refine (M.out _).mono ?_); rintro e w' ⟨rfl, rfl⟩)
          go_roundw
          case rel =>
            refine ⟨j + 1, t2, us.set (i + j) l2, by omega, htW, rfl, by go_num, ?_, du.set _ _ hl2W, ?_, ?_, hblk.set _ _, hbel.setCell hB _⟩
            · show _ = _
              rw [List.length_set]; exact hu.out
            · show _ = _
              obtain ⟨h, e⟩ := ho.out
              obtain ⟨hh, e2⟩ := hy.out
              have e3 := val_set 18446744073709551616 us (i + j) l2 h
              rw [e] at e3
              rw [val_take_succ _ _ _ hh, e2, Nat.mul_add x, Nat.mul_add, ← Nat.mul_assoc x, Nat.mul_comm x (18446744073709551616 ^ j), Nat.mul_assoc (18446744073709551616 ^ j), ← Nat.mul_assoc (18446744073709551616 ^ i) (18446744073709551616 ^ j), ← Nat.pow_add, ← Nat.add_assoc i j 1, Nat.pow_succ]
              exact mul_inner _ _ _ _ _ _ _ _ _ _ _ hv2.out HE.out _ e3
            · intro p hp
              have := h2.out p hp
              simp only [List.getD, List.getElem?_set]
              rw [if_neg (by omega)]
              exact this
          case measure => simp [intOf]; omega
        · obtain rfl : j = k2 := by omega
          obtain ⟨o, hco, hfo, ho⟩ := hblk.get (i + j) (by rw [hu.out]; omega)
          go_wp2
          go_roundw
          case rel =>
            refine ⟨i + 1, us.set (i + j) c, by omega, by go_num, ?_, du.set _ _ hc, ?_, ?_, hblk.set _ _, hbel.setCell hB _⟩
            · show _ = _
              rw [List.length_set]; exact hu.out
            · show _ = _
              obtain ⟨h, e⟩ := ho.out
              obtain ⟨hh, e2⟩ := hx.out
              have e3 := val_set 18446744073709551616 us (i + j) c h
              have e4 := h2.out (i + j) (Nat.le_refl _)
              have e5 : us.getD (i + j) 0 = o := by rw [← e]; simp [List.getD, h]
              rw [e4] at e5
              rw [e, ← e5, Nat.mul_zero, Nat.add_zero] at e3
              have e6 := hv2.out
              rw [List.take_of_length_le (l := Y) (by rw [hY.len]; omega)] at e6
              rw [e3, e6, hv.out, val_take_succ _ _ _ hh, e2, Nat.add_mul, Nat.mul_assoc]
            · intro p hp
              have := h2.out p (by omega)
              simp only [List.getD, List.getElem?_set]
              rw [if_neg (by omega)]
              exact this
          case measure => simp [intOf]; omega
    · obtain rfl : i = k1 := by omega
      have hown := Own.ofBlk hblk hB (i + k2) hz.out (by omega)
      have hval : Hid (val 18446744073709551616 zs = val 18446744073709551616 xs * val 18446744073709551616 ys) := by
        show _ = _
        rw [hv.out, List.take_of_length_le (l := X) (by rw [hX.len]; omega), vX.out, vY.out]
      go_wp2_with (go_at_call 59; (with_reducible refine (trim_own hown dz).mono ?_); rintro e w' ⟨m, rfl, hm, ho, rfl⟩)
      go_ret
      exact ⟨_, _, _, rfl, by rw [← hval.out]; exact ho, hbel⟩

end Go.Proofs.Ytaeamlldocbeeaa
