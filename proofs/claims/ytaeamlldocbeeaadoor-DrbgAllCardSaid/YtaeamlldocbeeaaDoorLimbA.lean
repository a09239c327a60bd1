/- LimbA: Limb1, Limb2, Limb3, Limb4. -/
import Derived.Test.YtaeamlldocbeeaaDoorBits

/- limb: trim, made, Of, Norm, Cmp. -/

namespace Go.Proofs.YtaeamlldocbeeaaDoor
open Go.RowKit Num

theorem trim_any {a : Option Addr} {n c : Nat} {xs : List Nat} {w : World} (h : Sl .u64 w a n c xs) :
    Calls Tryd.prog 38 #[.slice a n c] w fun e w' => e = .returned (.slice a (tlen xs) c) ∧ w = w' := by
  cases a with
  | none =>
    obtain rfl : c = 0 := h.nil rfl
    obtain rfl : n = 0 := by have := h.le; omega
    obtain rfl : xs = [] := List.eq_nil_of_length_eq_zero h.len
    clear h
    go_enter Tryd.func38, Tryd.ntmps38
    go_wp2
    refine wp_loop_once ?_
    go_wp2
    go_ret
    exact ⟨rfl, rfl⟩
  | some p =>
    by_cases hc0 : c = 0
    · subst hc0
      obtain rfl : n = 0 := by have := h.le; omega
      obtain rfl : xs = [] := List.eq_nil_of_length_eq_zero h.len
      clear h
      go_enter Tryd.func38, Tryd.ntmps38
      go_wp2
      refine wp_loop_once ?_
      go_wp2
      go_ret
      exact ⟨rfl, rfl⟩
    obtain ⟨b, o, s⟩ := p
    have hs := h.spot _ rfl (by omega)
    simp at hs
    subst hs
    have hm := h.cap
    have hc := h.le
    have HN := mkHid h.len
    have HR := mkHid h
    clear h
    go_enter Tryd.func38, Tryd.ntmps38
    go_wp2
    go_loop [3] (fun i => ∃ k : Nat, k ≤ n ∧ i = .int .i64 k ∧ Hid (tlen xs = tlen (xs.take k))) (fun i => (intOf i).toNat)
    case atStart => exact ⟨n, Nat.le_refl _, rfl, by show tlen xs = _; rw [List.take_of_length_le (by rw [HN.out]; exact Nat.le_refl _)]⟩
    case round =>
      obtain ⟨k, hk, rfl, ht⟩ := hrel
      by_cases h0 : 0 < k
      · obtain ⟨j, rfl⟩ : ∃ j, k = j + 1 := ⟨k - 1, by omega⟩
        have hj : j < xs.length := by rw [HN.out]; omega
        have hx := HR.out.cell j hj
        generalize hxv : xs[j] = x at hx
        have HX := mkHid hxv
        clear hxv
        by_cases hz : x = 0
        · have hb : ((x : Int) == 0) = true := by simp [hz]
          have HZ := mkHid hz
          clear hz
          go_wp2
          go_round
          case rel => exact ⟨j, by omega, by go_num, by show tlen xs = _; rw [ht.out]; exact tlen_take _ _ hj (HX.out.trans HZ.out)⟩
          case measure => simp [intOf]
        · have hb : ((x : Int) == 0) = false := by simp [hz]
          have HZ := mkHid hz
          clear hz
          go_wp2
          go_ret
          refine ⟨?_, rfl⟩
          rw [ht.out, tlen_ne _ _ hj (by rw [HX.out]; exact HZ.out)]
          rfl
      · obtain rfl : k = 0 := by omega
        go_wp2
        go_ret
        refine ⟨?_, rfl⟩
        rw [ht.out]; rfl

/-- a trimmed slice reads the canonical digits -/
theorem Sl.trim {w : World} {a : Option Addr} {n c : Nat} {xs : List Nat} (h : Sl .u64 w a n c xs) (hd : Dg 18446744073709551616 xs) :
    Sl .u64 w a (tlen xs) c (dig 18446744073709551616 (val 18446744073709551616 xs)) := by
  rw [dig_val _ (by omega) hd]
  exact h.take _ (by rw [← h.len]; exact tlen_le xs)

theorem Own.trim {T : TypeId} {B : Nat} {w : World} {a : Option Addr} {n c : Nat} {xs : List Nat} (h : Own .u64 T B w a n c xs) (hd : Dg 18446744073709551616 xs) :
    Own .u64 T B w a (tlen xs) c (dig 18446744073709551616 (val 18446744073709551616 xs)) := by
  rw [dig_val _ (by omega) hd]
  exact h.take _ (by rw [← h.len]; exact tlen_le xs)

/-- limb.trim, of a number: its canonical digits, the memory as it was -/
theorem trim_sl {a : Option Addr} {n c : Nat} {xs : List Nat} {w : World} (h : Sl .u64 w a n c xs) (hd : Dg 18446744073709551616 xs) :
    Calls Tryd.prog 38 #[.slice a n c] w fun e w' => ∃ m, e = .returned (.slice a m c) ∧ m ≤ n ∧ Sl .u64 w a m c (dig 18446744073709551616 (val 18446744073709551616 xs)) ∧ w = w' :=
  (trim_any h).mono fun _ _ ⟨he, hw⟩ => ⟨_, he, by rw [← h.len]; exact tlen_le xs, h.trim hd, hw⟩

theorem trim_own {T B : Nat} {a : Option Addr} {n c : Nat} {xs : List Nat} {w : World} (h : Own .u64 T B w a n c xs) (hd : Dg 18446744073709551616 xs) :
    Calls Tryd.prog 38 #[.slice a n c] w fun e w' => ∃ m, e = .returned (.slice a m c) ∧ m ≤ n ∧ Own .u64 T B w a m c (dig 18446744073709551616 (val 18446744073709551616 xs)) ∧ w = w' :=
  (trim_any h.sl).mono fun _ _ ⟨he, hw⟩ => ⟨_, he, by rw [← h.len]; exact tlen_le xs, h.trim hd, hw⟩

end Go.Proofs.YtaeamlldocbeeaaDoor

/- limb: made, Of, Norm, Cmp. -/

namespace Go.Proofs.YtaeamlldocbeeaaDoor
open Go.RowKit Num

theorem made_any {a : Option Addr} {n c : Nat} {xs : List Nat} {w : World} (h : Sl .u64 w a n c xs) (hd : Dg 18446744073709551616 xs) (hn : n ≤ 1099511627776) :
    Calls Tryd.prog 41 #[.slice a n c] w (Gives .u64 47 w (dig 18446744073709551616 (val 18446744073709551616 xs))) := by
  go_enter Tryd.func41, Tryd.ntmps41
  go_wp2_with (first
    | (go_at_call 38; refine (trim_sl h hd).mono ?_; rintro e w' ⟨m, rfl, hm, hs, rfl⟩)
    | (at_builtin; refine wpList_app rfl (.const (.slice none 0 0)) (.tmp 4) 31 rfl 47 .u64 8 under_nat info_u64 w.heap.size none 0 0 [] rfl (Own.nilOwn _ _ _ _) _ _ _ _ rfl hs (by omega) (by omega) (Nat.le_refl _) ?_; intro a3 c3 w3 ho hb))
  go_ret
  exact ⟨_, _, _, rfl, by simpa using ho, hb⟩

/-- order as the program tells it -/
def cmpI (a b : Nat) : Int := if a < b then -1 else if a = b then 0 else 1

theorem cmp_any {a1 a2 : Option Addr} {n1 c1 n2 c2 : Nat} {xs ys : List Nat} {w : World} (h1 : Sl .u64 w a1 n1 c1 xs) (h2 : Sl .u64 w a2 n2 c2 ys) (hd1 : Dg 18446744073709551616 xs) (hd2 : Dg 18446744073709551616 ys)
    (hn1 : n1 ≤ 1099511627776) :
    Calls Tryd.prog 40 #[.slice a1 n1 c1, .slice a2 n2 c2] w (GivesInt .i64 w (cmpI (val 18446744073709551616 xs) (val 18446744073709551616 ys))) := by
  go_enter Tryd.func40, Tryd.ntmps40
  go_wp2_with (first
    | (go_at_call 38; (with_reducible refine (trim_sl h1 hd1).mono ?_); rintro e w' ⟨m1, rfl, hm1, hs1, rfl⟩)
    | (go_at_call 38; (with_reducible refine (trim_sl h2 hd2).mono ?_); rintro e w' ⟨m2, rfl, hm2, hs2, rfl⟩))
  · have hlt : m1 < m2 := by assumption
    have h3 := val_lt_of_length (n := val 18446744073709551616 ys) (Dg.dig 18446744073709551616 (by omega) (val 18446744073709551616 xs)) (by omega) rfl (by rw [hs1.len, hs2.len]; exact hlt)
    rw [val_dig _ (by omega)] at h3
    go_ret
    refine ⟨ret1 ?_, Below.refl _ _⟩
    unfold cmpI
    rw [if_pos h3]
  · have hlt : ¬ m1 < m2 := by assumption
    have hne : ((m1 : Int) != (m2 : Int)) = true := by assumption
    have hne' := nat_ne_of hne
    have h3 := val_lt_of_length (n := val 18446744073709551616 xs) (Dg.dig 18446744073709551616 (by omega) (val 18446744073709551616 ys)) (by omega) rfl (by rw [hs1.len, hs2.len]; omega)
    rw [val_dig _ (by omega)] at h3
    go_ret
    refine ⟨ret1 ?_, Below.refl _ _⟩
    unfold cmpI
    rw [if_neg (by omega), if_neg (by omega)]
  · have hne : ((m1 : Int) != (m2 : Int)) = false := by assumption
    have he := mkHid (nat_eq_of hne)
    rw [hne]
    clear hne
    obtain rfl := he.out
    go_loopw [5] (fun i wr => ∃ k : Nat, k ≤ m1 ∧ i = .int .i64 ((k : Int) - 1) ∧ Hid ((dig 18446744073709551616 (val 18446744073709551616 xs)).drop k = (dig 18446744073709551616 (val 18446744073709551616 ys)).drop k) ∧ Below w.heap.size w wr) (fun i _ => (intOf i + 1).toNat)
    case atStart =>
      refine ⟨m1, Nat.le_refl _, rfl, ?_, Below.refl _ _⟩
      show _ = _
      rw [List.drop_of_length_le (by rw [hs1.len]; exact Nat.le_refl _), List.drop_of_length_le (by rw [hs2.len]; exact Nat.le_refl _)]
    case round =>
      obtain ⟨k, hk, rfl, hX, hb⟩ := hrel
      cases k with
      | zero =>
        rw [show ((0 : Nat) : Int) - 1 = -1 from rfl]
        go_wp2
        go_ret
        refine ⟨ret1 ?_, hb⟩
        have e := hX.out
        simp only [List.drop_zero] at e
        have e2 := dig_inj _ (by omega) e
        unfold cmpI
        rw [if_neg (by omega), if_pos e2]
      | succ j =>
        rw [show ((j + 1 : Nat) : Int) - 1 = (j : Int) by omega]
        obtain ⟨b1, o1, x, rfl, hc1, hx⟩ := (hs1.keep hb).get j (by omega)
        obtain ⟨b2, o2, y, rfl, hc2, hy⟩ := (hs2.keep hb).get j (by omega)
        by_cases hxy : x = y
        · have hq := bne_f hxy
          have HXY := mkHid hxy
          clear hxy
          go_wp2
          go_quiet (fail)
          go_wp2
          go_roundw
          case rel =>
            refine ⟨j, by omega, by go_num, ?_, by exact hb.trans ⟨rfl, rfl, rfl, Nat.le_refl _, fun _ _ => rfl⟩⟩
            obtain ⟨i1, e1⟩ := hx.out
            obtain ⟨i2, e2⟩ := hy.out
            show _ = _
            rw [List.drop_eq_getElem_cons i1, List.drop_eq_getElem_cons i2, hX.out, e1, e2, HXY.out]
          case measure => simp [intOf]
        · have hq := bne_t hxy
          have HXY := mkHid hxy
          clear hxy
          obtain ⟨i1, e1⟩ := hx.out
          obtain ⟨i2, e2⟩ := hy.out
          have HX := mkHid e1
          have HY := mkHid e2
          clear e1 e2
          have hd := hX.out
          have HD := mkHid hd
          clear hd
          by_cases hlt : x < y
          · have hv : val 18446744073709551616 xs < val 18446744073709551616 ys := by
              have := val_cmp_aux (Dg.dig 18446744073709551616 (by omega) (val 18446744073709551616 xs)) (Dg.dig 18446744073709551616 (by omega) (val 18446744073709551616 ys)) j i1 i2 (by rw [hs1.len, hs2.len]) HD.out (by rw [HX.out, HY.out]; exact hlt)
              rwa [val_dig _ (by omega), val_dig _ (by omega)] at this
            go_wp2
            go_quiet (fail)
            go_wp2
            go_quiet (fail)
            go_wp2
            go_ret
            refine ⟨ret1 ?_, by exact hb.trans ⟨rfl, rfl, rfl, Nat.le_refl _, fun _ _ => rfl⟩⟩
            unfold cmpI
            rw [if_pos hv]
          · have hv : val 18446744073709551616 ys < val 18446744073709551616 xs := by
              have := val_cmp_aux (Dg.dig 18446744073709551616 (by omega) (val 18446744073709551616 ys)) (Dg.dig 18446744073709551616 (by omega) (val 18446744073709551616 xs)) j i2 i1 (by rw [hs1.len, hs2.len]) HD.out.symm (by rw [HX.out, HY.out]; have := HXY.out; omega)
              rwa [val_dig _ (by omega), val_dig _ (by omega)] at this
            go_wp2
            go_quiet (fail)
            go_wp2
            go_quiet (fail)
            go_wp2
            go_ret
            refine ⟨ret1 ?_, by exact hb.trans ⟨rfl, rfl, rfl, Nat.le_refl _, fun _ _ => rfl⟩⟩
            unfold cmpI
            rw [if_neg (by omega), if_neg (by omega)]

end Go.Proofs.YtaeamlldocbeeaaDoor

/- limb: Add, Sub. -/

namespace Go.Proofs.YtaeamlldocbeeaaDoor
open Go.RowKit Num

end Go.Proofs.YtaeamlldocbeeaaDoor

/- limb: Mul. -/

namespace Go.Proofs.YtaeamlldocbeeaaDoor
open Go.RowKit Num

theorem mul64_o (x y : Nat) (hx : x < 18446744073709551616) (hy : y < 18446744073709551616) (hi lo : Nat) (h1 : hi = x * y / 18446744073709551616) (h2 : lo = x * y % 18446744073709551616) (w : World) :
    Calls Tryd.prog 52 #[.int .u64 (x : Int), .int .u64 (y : Int)] w fun e w' =>
      e = .returned (.tuple #[.int .u64 (hi : Int), .int .u64 (lo : Int)]) ∧ w = w' := by
  subst h1; subst h2
  exact mul64_any x y hx hy w

theorem u64_in (a b : Nat) (h : a + b < 18446744073709551616) (c : Nat) (hc : c = a + b) : IntKind.u64.wrap ((a : Int) + (b : Int)) = (c : Int) := by
  rw [IntKind.wrap_u64]; omega

end Go.Proofs.YtaeamlldocbeeaaDoor
