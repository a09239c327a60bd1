/- limb: Quo. -/
import Derived.Test.YtaeamlldocbeeaaLimb9
import Derived.Test.YtaeamlldocbeeaaNum6
namespace Go.Proofs.Ytaeamlldocbeeaa
open Go.RowKit Num

/-- two slices of their own memory, and a bool, are the results -/
def GivesQ (w : World) (q r : List Nat) (ok : Bool) (e : Ending) (w' : World) : Prop :=
  ∃ a1 n1 c1 a2 n2 c2, e = .returned (.tuple #[.slice a1 n1 c1, .slice a2 n2 c2, .bool ok]) ∧ Own .u64 54 w.heap.size w' a1 n1 c1 q ∧ Own .u64 54 w.heap.size w' a2 n2 c2 r ∧ Below w.heap.size w w'

theorem cmp_less {a b : Nat} : decide (cmpI a b < 0) = decide (a < b) := by
  unfold cmpI
  by_cases h : a < b
  · rw [if_pos h]; simp [h]
  · rw [if_neg h]; split <;> simp [h]

theorem quo_zero {a1 a2 : Option Addr} {n1 c1 n2 c2 : Nat} {xs ys : List Nat} {w : World} (h1 : Sl .u64 w a1 n1 c1 xs) (h2 : Sl .u64 w a2 n2 c2 ys) (hd1 : Dg 18446744073709551616 xs) (hd2 : Dg 18446744073709551616 ys)
    (hv : val 18446744073709551616 ys = 0) :
    Calls Try.prog 16 #[.slice a1 n1 c1, .slice a2 n2 c2] w (GivesQ w [] [] false) := by
  have HV := mkHid hv
  clear hv
  go_enter Try.func16, Try.ntmps16
  go_upto_if 22 with (first
    | (go_at_call 59; (with_reducible refine (trim_sl h1 hd1).mono ?_); rintro e w' ⟨k1, rfl, hm1, hX, rfl⟩)
    | (go_at_call 59; (with_reducible refine (trim_sl h2 hd2).mono ?_); rintro e w' ⟨k2, rfl, hm2, hY, rfl⟩))
  obtain rfl : k2 = 0 := by rw [← hY.len, HV.out]; rfl
  go_wp2
  refine bodyPost_ret (v := .tuple #[.slice none 0 0, .slice none 0 0, .bool false]) (by simp [results, Try.results16, go_sem]) rfl ?_
  exact ⟨none, 0, 0, none, 0, 0, rfl, Own.nilOwn _ _ _ _, Own.nilOwn _ _ _ _, Below.refl _ _⟩

theorem quo_less {a1 a2 : Option Addr} {n1 c1 n2 c2 : Nat} {xs ys : List Nat} {w : World} (h1 : Sl .u64 w a1 n1 c1 xs) (h2 : Sl .u64 w a2 n2 c2 ys) (hd1 : Dg 18446744073709551616 xs) (hd2 : Dg 18446744073709551616 ys)
    (hn1 : n1 ≤ 1099511627776) (hv : val 18446744073709551616 xs < val 18446744073709551616 ys) :
    Calls Try.prog 16 #[.slice a1 n1 c1, .slice a2 n2 c2] w (GivesQ w [] (dig 18446744073709551616 (val 18446744073709551616 xs)) true) := by
  go_enter Try.func16, Try.ntmps16
  go_upto_if 22 with (first
    | (go_at_call 59; (with_reducible refine (trim_sl h1 hd1).mono ?_); rintro e w' ⟨k1, rfl, hm1, hX, rfl⟩)
    | (go_at_call 59; (with_reducible refine (trim_sl h2 hd2).mono ?_); rintro e w' ⟨k2, rfl, hm2, hY, rfl⟩))
  have hk2 : 0 < k2 := by
    rw [← hY.len]
    exact (lt_dig_length _ (by omega) 0 _).2 (by rw [Nat.pow_zero]; omega)
  have t1 : ((k2 : Int) == 0) = false := beq_f (n := 0) (by omega)
  have t2 : Hid (decide (cmpI (val 18446744073709551616 xs) (val 18446744073709551616 ys) < 0) = true) := by show _ = _; rw [cmp_less]; exact decide_eq_true hv
  go_upto_if 26 with (first
    | (go_at_call 36; (with_reducible refine (cmp_any hX hY (Dg.dig _ (by omega) _) (Dg.dig _ (by omega) _) (by omega)).mono ?_); rintro e w1 ⟨rfl, hb1⟩))
  rw [val_dig _ (by omega), val_dig _ (by omega), t2.out]
  go_wp2_with (first
    | (go_at_call 60; (with_reducible refine (made_any (hX.keep hb1) (Dg.dig _ (by omega) _) (by omega)).mono ?_); rintro e w2 ⟨a3, n3, c3, rfl, ho, hb2⟩))
  refine bodyPost_ret (v := .tuple #[.slice none 0 0, .slice a3 n3 c3, .bool true]) (by simp [results, Try.results16, go_sem]) rfl ?_
  rw [val_dig _ (by omega)] at ho
  exact ⟨none, 0, 0, a3, n3, c3, rfl, Own.nilOwn _ _ _ _, ho.mono hb1.size, hb1.trans (hb2.mono hb1.size)⟩

theorem quo_one {a1 a2 : Option Addr} {n1 c1 n2 c2 : Nat} {xs ys : List Nat} {w : World} (h1 : Sl .u64 w a1 n1 c1 xs) (h2 : Sl .u64 w a2 n2 c2 ys) (hd1 : Dg 18446744073709551616 xs) (hd2 : Dg 18446744073709551616 ys)
    (hn1 : n1 ≤ 1099511627776) (hv : val 18446744073709551616 ys ≤ val 18446744073709551616 xs) (h0 : 0 < val 18446744073709551616 ys) (hW : val 18446744073709551616 ys < 18446744073709551616) :
    Calls Try.prog 16 #[.slice a1 n1 c1, .slice a2 n2 c2] w (GivesQ w (dig 18446744073709551616 (val 18446744073709551616 xs / val 18446744073709551616 ys)) (dig 18446744073709551616 (val 18446744073709551616 xs % val 18446744073709551616 ys)) true) := by
  go_enter Try.func16, Try.ntmps16
  go_upto_if 22 with (first
    | (go_at_call 59; (with_reducible refine (trim_sl h1 hd1).mono ?_); rintro e w' ⟨k1, rfl, hm1, hX, rfl⟩)
    | (go_at_call 59; (with_reducible refine (trim_sl h2 hd2).mono ?_); rintro e w' ⟨k2, rfl, hm2, hY, rfl⟩))
  rw [dig_lt_base _ (by omega) hW (by omega)] at hY
  obtain rfl : k2 = 1 := hY.len.symm
  have t2 : Hid (decide (cmpI (val 18446744073709551616 xs) (val 18446744073709551616 ys) < 0) = false) := by show _ = _; rw [cmp_less]; exact decide_eq_false (by omega)
  have dX := Dg.dig 18446744073709551616 (by omega) (val 18446744073709551616 xs)
  have vX := mkHid (val_dig 18446744073709551616 (by omega) (val 18446744073709551616 xs))
  go_upto_if 26 with (first
    | (go_at_call 36; (with_reducible refine (cmp_any hX hY dX (Dg.cons hW Dg.nil) (by omega)).mono ?_); rintro e w1 ⟨rfl, hb1⟩))
  rw [vX.out, val_single, t2.out]
  obtain ⟨b2, o2, y, rfl, hcy, hy⟩ := (hY.keep hb1).get 0 (by omega)
  rw [Nat.add_zero] at hcy
  have hyv : y = val 18446744073709551616 ys := by obtain ⟨_, e⟩ := hy.out; rw [← e]; rfl
  have HYV := mkHid hyv
  have hy0 : 0 < y := by omega
  have hyW : y < 18446744073709551616 := by omega
  clear hyv
  have hsm := mkHid (small_any (hX.keep hb1) dX (by omega) y hy0 hyW)
  have hrW : val 18446744073709551616 (dig 18446744073709551616 (val 18446744073709551616 xs)) % y < 18446744073709551616 := Nat.lt_trans (Nat.mod_lt _ hy0) hyW
  obtain ⟨r, hr⟩ : ∃ r, r = val 18446744073709551616 (dig 18446744073709551616 (val 18446744073709551616 xs)) % y := ⟨_, rfl⟩
  rw [← hr] at hsm hrW
  have HR := mkHid hr
  clear hr
  go_wp2_with (first
    | (go_at_call 61; (with_reducible refine hsm.out.mono ?_); rintro e w2 ⟨a3, n3, c3, rfl, ho, hb2⟩)
    | (go_at_call 62; (with_reducible refine (of_any r hrW _).mono ?_); rintro e w3 ⟨a4, n4, c4, rfl, ho2, hb3⟩))
  refine bodyPost_ret (v := .tuple #[.slice a3 n3 c3, .slice a4 n4 c4, .bool true]) (by simp [results, Try.results16, go_sem]) rfl ?_
  have hs12 := hb1.size
  have hs23 := hb2.size
  rw [vX.out, HYV.out] at ho
  rw [HR.out, vX.out, HYV.out] at ho2
  exact ⟨a3, n3, c3, a4, n4, c4, rfl, (ho.keep hb3).mono hs12, ho2.mono (by omega), hb1.trans ((hb2.trans (hb3.mono hs23)).mono hs12)⟩

end Go.Proofs.Ytaeamlldocbeeaa
