/- limb: made, Of, Norm, Cmp. -/
import Derived.Test.YtaeamlldocbeeaaLimb1
namespace Go.Proofs.Ytaeamlldocbeeaa
open Go.RowKit Num

theorem made_any {a : Option Addr} {n c : Nat} {xs : List Nat} {w : World} (h : Sl .u64 w a n c xs) (hd : Dg 18446744073709551616 xs) (hn : n ≤ 1099511627776) :
    Calls Try.prog 60 #[.slice a n c] w (Gives .u64 54 w (dig 18446744073709551616 (val 18446744073709551616 xs))) := by
  go_enter Try.func60, Try.ntmps60
  go_wp2_with (first
    | (go_at_call 59; refine (trim_sl h hd).mono ?_; rintro e w' ⟨m, rfl, hm, hs, rfl⟩)
    | (at_builtin; refine wpList_app rfl (.const (.slice none 0 0)) (.tmp 4) 23 rfl 54 .u64 8 under_nat info_u64 w.heap.size none 0 0 [] rfl (Own.nilOwn _ _ _ _) _ _ _ _ rfl hs (by omega) (by omega) (Nat.le_refl _) ?_; intro a3 c3 w3 ho hb))
  go_ret
  exact ⟨_, _, _, rfl, by simpa using ho, hb⟩

theorem norm_any {a : Option Addr} {n c : Nat} {xs : List Nat} {w : World} (h : Sl .u64 w a n c xs) (hd : Dg 18446744073709551616 xs) (hn : n ≤ 1099511627776) :
    Calls Try.prog 37 #[.slice a n c] w (Gives .u64 54 w (dig 18446744073709551616 (val 18446744073709551616 xs))) := by
  go_enter Try.func37, Try.ntmps37
  go_wp2_with (go_at_call 60; refine (made_any h hd hn).mono ?_; rintro e w' ⟨a1, n1, c1, rfl, ho, hb⟩)
  go_ret
  exact ⟨_, _, _, rfl, ho, hb⟩

/-- order as the program tells it -/
def cmpI (a b : Nat) : Int := if a < b then -1 else if a = b then 0 else 1

theorem cmp_any {a1 a2 : Option Addr} {n1 c1 n2 c2 : Nat} {xs ys : List Nat} {w : World} (h1 : Sl .u64 w a1 n1 c1 xs) (h2 : Sl .u64 w a2 n2 c2 ys) (hd1 : Dg 18446744073709551616 xs) (hd2 : Dg 18446744073709551616 ys)
    (hn1 : n1 ≤ 1099511627776) :
    Calls Try.prog 36 #[.slice a1 n1 c1, .slice a2 n2 c2] w (GivesInt .i64 w (cmpI (val 18446744073709551616 xs) (val 18446744073709551616 ys))) := by
  go_enter Try.func36, Try.ntmps36
  go_wp2_with (first
    | (go_at_call 59; (with_reducible refine (trim_sl h1 hd1).mono ?_); rintro e w' ⟨m1, rfl, hm1, hs1, rfl⟩)
    | (go_at_call 59; (with_reducible refine (trim_sl h2 hd2).mono ?_); rintro e w' ⟨m2, rfl, hm2, hs2, rfl⟩))
  · have hlt : m1 < m2 := by assumption
    have h3 := val_lt_of_length (n := val 18446744073709551616 ys) (Dg.dig 18446744073709551616 (by omega) (val 18446744073709551616 xs)) (by omega) rfl (by rw [hs1.len, hs2.len]; exact hlt)
    rw [val_dig _ (by omega)] at h3
    go_ret
    refine ⟨ret1 ?_, Below.refl _ _⟩
    unfold cmpI
    rw [if_pos h3]
  · have hlt : ¬ m1 < m2 := by assumption
    have hne : ((m1 : Int) != (m2 : Int)) = true := by assumption
    have hne' := nat_ne_of hne
    have h3 := val_lt_of_length (n := val 18446744073709551616 xs) (Dg.dig 18446744073709551616 (by omega) (val 18446744073709551616 ys)) (by omega) rfl (by rw [hs1.len, hs2.len]; omega)
    rw [val_dig _ (by omega)] at h3
    go_ret
    refine ⟨ret1 ?_, Below.refl _ _⟩
    unfold cmpI
    rw [if_neg (by omega), if_neg (by omega)]
  · have hne : ((m1 : Int) != (m2 : Int)) = false := by assumption
    have he := mkHid (nat_eq_of hne)
    rw [hne]
    clear hne
    obtain rfl := he.out
    go_loopw [5] (fun i wr => ∃ k : Nat, k ≤ m1 ∧ i = .int .i64 ((k : Int) - 1) ∧ Hid ((dig 18446744073709551616 (val 18446744073709551616 xs)).drop k = (dig 18446744073709551616 (val 18446744073709551616 ys)).drop k) ∧ Below w.heap.size w wr) (fun i _ => (intOf i + 1).toNat)
    case atStart =>
      refine ⟨m1, Nat.le_refl _, rfl, ?_, Below.refl _ _⟩
      show _ = _
      rw [List.drop_of_length_le (by rw [hs1.len]; exact Nat.le_refl _), List.drop_of_length_le (by rw [hs2.len]; exact Nat.le_refl _)]
    case round =>
      obtain ⟨k, hk, rfl, hX, hb⟩ := hrel
      cases k with
      | zero =>
        rw [show ((0 : Nat) : Int) - 1 = -1 from rfl]
        go_wp2
        go_ret
        refine ⟨ret1 ?_, hb⟩
        have e := hX.out
        simp only [List.drop_zero] at e
        have e2 := dig_inj _ (by omega) e
        unfold cmpI
        rw [if_neg (by omega), if_pos e2]
      | succ j =>
        rw [show ((j + 1 : Nat) : Int) - 1 = (j : Int) by omega]
        obtain ⟨b1, o1, x, rfl, hc1, hx⟩ := (hs1.keep hb).get j (by omega)
        obtain ⟨b2, o2, y, rfl, hc2, hy⟩ := (hs2.keep hb).get j (by omega)
        by_cases hxy : x = y
        · have hq := bne_f hxy
          have HXY := mkHid hxy
          clear hxy
          go_wp2
          go_quiet (fail)
          go_wp2
          go_roundw
          case rel =>
            refine ⟨j, by omega, by go_num, ?_, by exact hb.trans ⟨rfl, rfl, rfl, Nat.le_refl _, fun _ _ => rfl⟩⟩
            obtain ⟨i1, e1⟩ := hx.out
            obtain ⟨i2, e2⟩ := hy.out
            show _ = _
            rw [List.drop_eq_getElem_cons i1, List.drop_eq_getElem_cons i2, hX.out, e1, e2, HXY.out]
          case measure => simp [intOf]
        · have hq := bne_t hxy
          have HXY := mkHid hxy
          clear hxy
          obtain ⟨i1, e1⟩ := hx.out
          obtain ⟨i2, e2⟩ := hy.out
          have HX := mkHid e1
          have HY := mkHid e2
          clear e1 e2
          have hd := hX.out
          have HD := mkHid hd
          clear hd
          by_cases hlt : x < y
          · have hv : val 18446744073709551616 xs < val 18446744073709551616 ys := by
              have := val_cmp_aux (Dg.dig 18446744073709551616 (by omega) (val 18446744073709551616 xs)) (Dg.dig 18446744073709551616 (by omega) (val 18446744073709551616 ys)) j i1 i2 (by rw [hs1.len, hs2.len]) HD.out (by rw [HX.out, HY.out]; exact hlt)
              rwa [val_dig _ (by omega), val_dig _ (by omega)] at this
            go_wp2
            go_quiet (fail)
            go_wp2
            go_quiet (fail)
            go_wp2
            go_ret
            refine ⟨ret1 ?_, by exact hb.trans ⟨rfl, rfl, rfl, Nat.le_refl _, fun _ _ => rfl⟩⟩
            unfold cmpI
            rw [if_pos hv]
          · have hv : val 18446744073709551616 ys < val 18446744073709551616 xs := by
              have := val_cmp_aux (Dg.dig 18446744073709551616 (by omega) (val 18446744073709551616 ys)) (Dg.dig 18446744073709551616 (by omega) (val 18446744073709551616 xs)) j i2 i1 (by rw [hs1.len, hs2.len]) HD.out.symm (by rw [HX.out, HY.out]; have := HXY.out; omega)
              rwa [val_dig _ (by omega), val_dig _ (by omega)] at this
            go_wp2
            go_quiet (fail)
            go_wp2
            go_quiet (fail)
            go_wp2
            go_ret
            refine ⟨ret1 ?_, by exact hb.trans ⟨rfl, rfl, rfl, Nat.le_refl _, fun _ _ => rfl⟩⟩
            unfold cmpI
            rw [if_neg (by omega), if_neg (by omega)]

end Go.Proofs.Ytaeamlldocbeeaa
