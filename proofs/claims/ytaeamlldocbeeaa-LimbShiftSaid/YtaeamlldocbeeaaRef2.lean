/- baileyref1: Cmp, To, Is. -/
import Derived.Test.YtaeamlldocbeeaaRef1
namespace Go.Proofs.Ytaeamlldocbeeaa
open Go.RowKit Num

theorem rcmp_any {a1 a2 : Option Addr} {n1 c1 n2 c2 x y : Nat} {w : World} (h1 : Sl .u64 w a1 n1 c1 (dig 4294967296 x)) (h2 : Sl .u64 w a2 n2 c2 (dig 4294967296 y)) (hn1 : n1 ≤ 1099511627776) :
    Calls Try.prog 17 #[.slice a1 n1 c1, .slice a2 n2 c2] w (GivesInt .i64 w (cmpI x y)) := by
  have dX := Dg.dig 4294967296 (by omega) x
  have dY := Dg.dig 4294967296 (by omega) y
  have vX := mkHid (val_dig 4294967296 (by omega) x)
  have vY := mkHid (val_dig 4294967296 (by omega) y)
  by_cases hne : n1 = n2
  · obtain rfl := hne
    have t1 : ((n1 : Int) != (n1 : Int)) = false := bne_f rfl
    go_enter Try.func17, Try.ntmps17
    go_wp2
    go_loopw [5] (fun i wr => ∃ k : Nat, k ≤ n1 ∧ i = .int .i64 ((k : Int) - 1) ∧ Hid ((dig 4294967296 x).drop k = (dig 4294967296 y).drop k) ∧ Below w.heap.size w wr) (fun i _ => (intOf i + 1).toNat)
    case atStart =>
      refine ⟨n1, Nat.le_refl _, rfl, ?_, Below.refl _ _⟩
      show _ = _
      rw [List.drop_of_length_le (by rw [h1.len]; exact Nat.le_refl _), List.drop_of_length_le (by rw [h2.len]; exact Nat.le_refl _)]
    case round =>
      obtain ⟨k, hk, rfl, hX, hb⟩ := hrel
      cases k with
      | zero =>
        rw [show ((0 : Nat) : Int) - 1 = -1 from rfl]
        go_wp2
        go_ret
        refine ⟨ret1 ?_, hb⟩
        have e := hX.out
        simp only [List.drop_zero] at e
        have e2 := dig_inj _ (by omega) e
        unfold cmpI
        rw [if_neg (by omega), if_pos e2]
      | succ j =>
        rw [show ((j + 1 : Nat) : Int) - 1 = (j : Int) by omega]
        obtain ⟨b1, o1, u, rfl, hc1, hx⟩ := (h1.keep hb).get j (by omega)
        obtain ⟨b2, o2, v, rfl, hc2, hy⟩ := (h2.keep hb).get j (by omega)
        obtain ⟨i1, e1⟩ := hx.out
        obtain ⟨i2, e2⟩ := hy.out
        have HX := mkHid e1
        have HY := mkHid e2
        clear e1 e2
        by_cases hlt : u < v
        · have hv : x < y := by
            have := val_cmp_aux dX dY j i1 i2 (by rw [h1.len, h2.len]) hX.out (by rw [HX.out, HY.out]; exact hlt)
            rwa [vX.out, vY.out] at this
          have t2 : decide (u < v) = true := decide_eq_true hlt
          go_wp2
          go_quiet (fail)
          go_wp2
          go_ret
          refine ⟨ret1 ?_, hb.trans ⟨rfl, rfl, rfl, Nat.le_refl _, fun _ _ => rfl⟩⟩
          unfold cmpI
          rw [if_pos hv]
        · have t2 : decide (u < v) = false := decide_eq_false hlt
          by_cases hgt : v < u
          · have hv : y < x := by
              have := val_cmp_aux dY dX j i2 i1 (by rw [h1.len, h2.len]) hX.out.symm (by rw [HX.out, HY.out]; exact hgt)
              rwa [vX.out, vY.out] at this
            have t3 : decide (v < u) = true := decide_eq_true hgt
            go_wp2
            go_quiet (fail)
            go_wp2
            go_quiet (fail)
            go_wp2
            go_ret
            refine ⟨ret1 ?_, hb.trans ⟨rfl, rfl, rfl, Nat.le_refl _, fun _ _ => rfl⟩⟩
            unfold cmpI
            rw [if_neg (by omega), if_neg (by omega)]
          · have t3 : decide (v < u) = false := decide_eq_false hgt
            have huv : Hid (u = v) := by show _ = _; omega
            go_wp2
            go_quiet (fail)
            go_wp2
            go_quiet (fail)
            go_wp2
            go_roundw
            case rel =>
              refine ⟨j, by omega, by go_num, ?_, hb.trans ⟨rfl, rfl, rfl, Nat.le_refl _, fun _ _ => rfl⟩⟩
              show _ = _
              rw [List.drop_eq_getElem_cons i1, List.drop_eq_getElem_cons i2, hX.out, HX.out, HY.out, huv.out]
            case measure => simp [intOf]
  · have t1 : ((n1 : Int) != (n2 : Int)) = true := bne_t hne
    by_cases hlt : n1 < n2
    · have t2 : decide (n1 < n2) = true := decide_eq_true hlt
      have h3 := val_lt_of_length (n := y) dX (by omega) rfl (by rw [h1.len, h2.len]; exact hlt)
      rw [vX.out] at h3
      clear hne
      go_enter Try.func17, Try.ntmps17
      go_wp2
      go_ret
      refine ⟨ret1 ?_, Below.refl _ _⟩
      unfold cmpI
      rw [if_pos h3]
    · have t2 : decide (n1 < n2) = false := decide_eq_false hlt
      have h3 := val_lt_of_length (n := x) dY (by omega) rfl (by rw [h1.len, h2.len]; omega)
      rw [vY.out] at h3
      clear hne
      go_enter Try.func17, Try.ntmps17
      go_wp2
      go_ret
      refine ⟨ret1 ?_, Below.refl _ _⟩
      unfold cmpI
      rw [if_neg (by omega), if_neg (by omega)]

theorem to_any {a1 : Option Addr} {n1 c1 v : Nat} {w : World} (h1 : Sl .u64 w a1 n1 c1 (dig 4294967296 v)) (hn1 : n1 ≤ 1099511627776) :
    Calls Try.prog 67 #[.slice a1 n1 c1] w (Gives .u64 54 w (dig 18446744073709551616 v)) := by
  have dX := Dg.dig 4294967296 (by omega) v
  have vX := mkHid (val_dig 4294967296 (by omega) v)
  have hlimb := limbs_of_digits v
  rw [h1.len] at hlimb
  have HL := mkHid hlimb
  clear hlimb
  have hl := mkHid h1.len
  generalize dig 4294967296 v = X at *
  go_enter Try.func67, Try.ntmps67
  go_wp2
  go_loopw [3, 4] (fun lv iv wr => ∃ (j k c : Nat) (a : Option Addr) (zs : List Nat), 2 * j ≤ n1 + 1 ∧ k = 2 * j ∧ lv = .slice a j c ∧ iv = .int .i64 (k : Int) ∧ Own .u64 54 w.heap.size wr a j c zs ∧ Dg 18446744073709551616 zs ∧
      Hid (val 18446744073709551616 zs = val 4294967296 (X.take (2 * j))) ∧ Below w.heap.size w wr) (fun _ iv _ => n1 + 1 - (intOf iv).toNat)
  case atStart => exact ⟨0, 0, 0, none, [], Nat.zero_le _, rfl, rfl, rfl, Own.nilOwn _ _ _ _, Dg.nil, rfl, Below.refl _ _⟩
  case round =>
    obtain ⟨j, k, c, a, zs, hj, hk, rfl, rfl, ho, dz, hv, hb⟩ := hrel
    have HK := mkHid hk
    have hk1 : k ≤ n1 + 1 := by omega
    clear hk
    by_cases hlt : k < n1
    · obtain ⟨b1, o1, x, rfl, hcx, hx⟩ := (h1.keep hb).get k hlt
      have hxV : x < 4294967296 := by obtain ⟨h, e⟩ := hx.out; rw [← e]; exact dX.at _ h
      by_cases hlt2 : k + 1 < n1
      · have hcy := (h1.keep hb).cell (k + 1) (by rw [hl.out]; exact hlt2)
        have hyV := dX.at (k + 1) (by rw [hl.out]; exact hlt2)
        obtain ⟨y, hy⟩ : ∃ y, y = X[k + 1]'(by rw [hl.out]; exact hlt2) := ⟨_, rfl⟩
        rw [← hy] at hcy hyV
        have HY := mkHid hy
        clear hy
        have t1 : decide ((k : Int) + 1 < (n1 : Int)) = true := decide_eq_true (by omega)
        obtain ⟨z, hz⟩ : ∃ z, z = x + 4294967296 * y := ⟨_, rfl⟩
        have e1 : (x : Int) + (y : Int) * 4294967296 = (z : Int) := by omega
        have hzW : z < 18446744073709551616 := by omega
        have HZ := mkHid hz
        clear hz
        go_wp2_with (at_builtin; refine wpList_app rfl (.tmp 29) (.tmp 31) 23 rfl 54 .u64 8 under_nat info_u64 w.heap.size _ _ _ _ rfl (ho.keep (below_alloc _ (Nat.le_refl _))) _ _ _ [z] rfl ((Blk.new1 wr .u64 54 z).sl 1 rfl (by omega)) (by omega) (by omega) (by rw [World.size_alloc]; have := hb.size; omega) ?_; intro a3 c3 w3 ho3 hb3)
        go_roundw
        case rel =>
          refine ⟨j + 1, k + 2, c3, a3, _, by have := HK.out; omega, by have := HK.out; omega, rfl, by go_num, ho3, dz.snoc hzW, ?_, (hb.alloc hb.size _).trans hb3⟩
          show _ = _
          obtain ⟨hh, e⟩ := hx.out
          rw [val_snoc, ho.len, hv.out, HZ.out, ← HK.out, show 2 * (j + 1) = k + 1 + 1 by rw [HK.out]; omega, val_take_succ _ _ _ (by rw [hl.out]; exact hlt2), val_take_succ _ _ _ hh, e, ← HY.out, ← pow_VW, ← HK.out, Nat.pow_succ, Nat.mul_add, Nat.mul_assoc, Nat.add_assoc]
        case measure => simp [intOf]; omega
      · have t1 : decide ((k : Int) + 1 < (n1 : Int)) = false := decide_eq_false (by omega)
        go_wp2_with (at_builtin; refine wpList_app rfl (.tmp 29) (.tmp 31) 23 rfl 54 .u64 8 under_nat info_u64 w.heap.size _ _ _ _ rfl (ho.keep (below_alloc _ (Nat.le_refl _))) _ _ _ [x] rfl ((Blk.new1 wr .u64 54 x).sl 1 rfl (by omega)) (by omega) (by omega) (by rw [World.size_alloc]; have := hb.size; omega) ?_; intro a3 c3 w3 ho3 hb3)
        go_roundw
        case rel =>
          refine ⟨j + 1, k + 2, c3, a3, _, by have := HK.out; omega, by have := HK.out; omega, rfl, by go_num, ho3, dz.snoc (by omega), ?_, (hb.alloc hb.size _).trans hb3⟩
          show _ = _
          obtain ⟨hh, e⟩ := hx.out
          have e2 := val_take_succ 4294967296 X k hh
          rw [val_snoc, ho.len, hv.out, ← HK.out, ← pow_VW, ← HK.out]
          rw [List.take_of_length_le (i := 2 * (j + 1)) (by rw [hl.out]; have := HK.out; omega)]
          rw [List.take_of_length_le (i := k + 1) (by rw [hl.out]; omega), e] at e2
          exact e2.symm
        case measure => simp [intOf]; omega
    · go_wp2
      go_ret
      refine ⟨_, _, _, rfl, ?_, hb⟩
      have hval : val 18446744073709551616 zs = v := by
        rw [hv.out, List.take_of_length_le (by rw [hl.out]; have := HK.out; omega), vX.out]
      have : zs = dig 18446744073709551616 v := eq_dig (by omega) dz hval (by rw [ho.len, HL.out]; have := HK.out; omega)
      rw [← this]
      exact ho

/-- Is: a limb number's canonical digits -/
theorem is_any {a1 a2 : Option Addr} {n1 c1 n2 c2 v : Nat} {xs : List Nat} {w : World} (h1 : Sl .u64 w a1 n1 c1 xs) (h2 : Sl .u64 w a2 n2 c2 (dig 4294967296 v)) (hn1 : n1 ≤ 1099511627776) (hn2 : n2 ≤ 1099511627776) :
    Calls Try.prog 20 #[.slice a1 n1 c1, .slice a2 n2 c2] w (GivesBool w (decide (xs = dig 18446744073709551616 v))) := by
  have hto := mkHid (to_any h2 hn2)
  have hl1 := mkHid h1.len
  go_enter Try.func20, Try.ntmps20
  go_upto_if 13 with (go_at_call 67; (with_reducible refine hto.out.mono ?_); rintro e w1 ⟨a3, n3, c3, rfl, ho, hb1⟩)
  have hl3 := mkHid ho.len
  have hs3 := ho.sl
  generalize dig 18446744073709551616 v = Z at *
  by_cases hne : n1 = n3
  · obtain rfl := hne
    have t1 : ((n1 : Int) != (n1 : Int)) = false := bne_f rfl
    rw [t1]
    go_wp2
    go_loopw [6] (fun iv wr => ∃ i : Nat, i ≤ n1 ∧ iv = .int .i64 (i : Int) ∧ Hid (xs.take i = Z.take i) ∧ Below w1.heap.size w1 wr) (fun iv _ => n1 - (intOf iv).toNat)
    case atStart => exact ⟨0, Nat.zero_le _, rfl, rfl, Below.refl _ _⟩
    case round =>
      obtain ⟨i, hi, rfl, hX, hb⟩ := hrel
      by_cases hlt : i < n1
      · obtain ⟨b1, o1, u, rfl, hc1, hx⟩ := ((h1.keep hb1).keep hb).get i hlt
        obtain ⟨b2, o2, x, rfl, hc2, hy⟩ := (hs3.keep hb).get i hlt
        obtain ⟨i1, e1⟩ := hx.out
        obtain ⟨i2, e2⟩ := hy.out
        have HX := mkHid e1
        have HY := mkHid e2
        clear e1 e2
        by_cases hxy : u = x
        · have hq := bne_f hxy
          have HXY := mkHid hxy
          clear hxy
          go_wp2
          go_quiet (fail)
          go_wp2
          go_roundw
          case rel =>
            refine ⟨i + 1, by omega, by go_num, ?_, hb.trans ⟨rfl, rfl, rfl, Nat.le_refl _, fun _ _ => rfl⟩⟩
            show _ = _
            rw [take_snoc _ _ i1, take_snoc _ _ i2, hX.out, HX.out, HY.out, HXY.out]
          case measure => simp [intOf]; omega
        · have hq := bne_t hxy
          have HXY : Hid (¬ xs = Z) := by
            intro h
            subst h
            exact hxy (HX.out.symm.trans HY.out)
          clear hxy
          go_wp2
          go_quiet (fail)
          go_wp2
          go_ret
          refine ⟨?_, hb1.trans ((hb.trans (below_drewN _ _ _)).mono hb1.size)⟩
          rw [decide_eq_false HXY.out]; rfl
      · obtain rfl : i = n1 := by omega
        have HXY : Hid (xs = Z) := by
          have e := hX.out
          rw [List.take_of_length_le (by rw [hl1.out]; exact Nat.le_refl _), List.take_of_length_le (by rw [hl3.out]; exact Nat.le_refl _)] at e
          exact e
        go_wp2
        go_ret
        refine ⟨?_, hb1.trans (hb.mono hb1.size)⟩
        rw [decide_eq_true HXY.out]; rfl
  · have t1 : ((n1 : Int) != (n3 : Int)) = true := bne_t hne
    have HXY : Hid (¬ xs = Z) := by
      intro h
      subst h
      exact hne (hl1.out.symm.trans hl3.out)
    clear hne
    rw [t1]
    go_wp2
    go_ret
    refine ⟨?_, hb1⟩
    rw [decide_eq_false HXY.out]; rfl

end Go.Proofs.Ytaeamlldocbeeaa
