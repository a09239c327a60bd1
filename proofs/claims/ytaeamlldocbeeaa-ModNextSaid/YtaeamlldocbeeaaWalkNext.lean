/- ModNext: the walk: it answers true. -/
import Derived.Test.YtaeamlldocbeeaaFew2
namespace Go.Proofs.Ytaeamlldocbeeaa
open Go.RowKit Num

set_option maxHeartbeats 1000000 in
theorem mnext_even {a1 a2 : Option Addr} {n1 c1 n2 c2 : Nat} {xs ys : List Nat} {w : World} (h1 : Sl .u64 w a1 n1 c1 xs) (h2 : Sl .u64 w a2 n2 c2 ys) (hd1 : Dg 18446744073709551616 xs) (hd2 : Dg 18446744073709551616 ys)
    (A B : Nat) (eA : val 18446744073709551616 (xs.take 2) = A) (eB : val 18446744073709551616 (ys.take 1) = B) (he : B % 2 = 0) :
    Calls Try.prog 10 #[.slice a1 n1 c1, .slice a2 n2 c2] w (GivesBool w true) := by
  have hT : Below w.heap.size w w := Below.refl _ _
  have HE := mkHid he
  clear he
  go_enter Try.func10, Try.ntmps10
  go_wp2_with (first
    | (go_at_call 40; (with_reducible refine (begun2_any _).mono ?_); rintro e w' ⟨rfl, hb⟩; (try (replace h1 := h1.keep hb)); (try (replace h2 := h2.keep hb)); (try (replace hA := hA.keep hb)); (try (replace hB := hB.keep hb)); (try (replace hX := hX.keep hb)); (try (replace hY := hY.keep hb)); (try (replace hZ := hZ.keep hb)); (try (replace hP := hP.keep hb)); (try (replace hQ := hQ.keep hb)); replace hT := hT.trans (hb.mono hT.size))
    | (go_at_call 41; (with_reducible refine (few2_2 h1 hd1).mono ?_); rintro e w' ⟨b1, m1, d1, rfl, hA, hb⟩; (try (replace h1 := h1.keep hb)); (try (replace h2 := h2.keep hb)); (try (replace hB := hB.keep hb)); (try (replace hX := hX.keep hb)); (try (replace hY := hY.keep hb)); (try (replace hZ := hZ.keep hb)); (try (replace hP := hP.keep hb)); (try (replace hQ := hQ.keep hb)); replace hT := hT.trans (hb.mono hT.size); clear h1; rw [eA] at hA)
    | (go_at_call 41; (with_reducible refine (few2_1 h2 hd2).mono ?_); rintro e w' ⟨b2, m2, d2, rfl, hB, hb⟩; (try (replace h1 := h1.keep hb)); (try (replace h2 := h2.keep hb)); (try (replace hA := hA.keep hb)); (try (replace hX := hX.keep hb)); (try (replace hY := hY.keep hb)); (try (replace hZ := hZ.keep hb)); (try (replace hP := hP.keep hb)); (try (replace hQ := hQ.keep hb)); replace hT := hT.trans (hb.mono hT.size); clear h2; rw [eB] at hB)
    | (go_at_call 15; (with_reducible refine (from_nm hB).mono ?_); rintro e w' ⟨b3, m3, d3, rfl, hY, hb⟩; (try (replace h1 := h1.keep hb)); (try (replace h2 := h2.keep hb)); (try (replace hA := hA.keep hb)); (try (replace hB := hB.keep hb)); (try (replace hX := hX.keep hb)); (try (replace hZ := hZ.keep hb)); (try (replace hP := hP.keep hb)); (try (replace hQ := hQ.keep hb)); replace hT := hT.trans (hb.mono hT.size))
    | (go_at_call 49; (with_reducible refine (next_even hA hB HE.out).mono ?_); rintro e w' ⟨b5, d5, rfl, hb⟩; (try (replace h1 := h1.keep hb)); (try (replace h2 := h2.keep hb)); (try (replace hA := hA.keep hb)); (try (replace hB := hB.keep hb)); (try (replace hX := hX.keep hb)); (try (replace hY := hY.keep hb)); (try (replace hZ := hZ.keep hb)); (try (replace hP := hP.keep hb)); (try (replace hQ := hQ.keep hb)); replace hT := hT.trans (hb.mono hT.size))
    | (go_at_call 27; (with_reducible refine (rbit0 hY 0 HE.out).mono ?_); rintro e w' ⟨rfl, rfl⟩))
  go_ret
  exact ⟨rfl, hT⟩

set_option maxHeartbeats 1000000 in
theorem mnext_odd {a1 a2 : Option Addr} {n1 c1 n2 c2 : Nat} {xs ys : List Nat} {w : World} (h1 : Sl .u64 w a1 n1 c1 xs) (h2 : Sl .u64 w a2 n2 c2 ys) (hd1 : Dg 18446744073709551616 xs) (hd2 : Dg 18446744073709551616 ys)
    (A B : Nat) (eA : val 18446744073709551616 (xs.take 2) = A) (eB : val 18446744073709551616 (ys.take 1) = B) (he : B % 2 = 1) :
    Calls Try.prog 10 #[.slice a1 n1 c1, .slice a2 n2 c2] w (GivesBool w true) := by
  have hT : Below w.heap.size w w := Below.refl _ _
  have HE := mkHid he
  clear he
  go_enter Try.func10, Try.ntmps10
  go_wp2_with (first
    | (go_at_call 40; (with_reducible refine (begun2_any _).mono ?_); rintro e w' ⟨rfl, hb⟩; (try (replace h1 := h1.keep hb)); (try (replace h2 := h2.keep hb)); (try (replace hA := hA.keep hb)); (try (replace hB := hB.keep hb)); (try (replace hX := hX.keep hb)); (try (replace hY := hY.keep hb)); (try (replace hZ := hZ.keep hb)); (try (replace hP := hP.keep hb)); (try (replace hQ := hQ.keep hb)); replace hT := hT.trans (hb.mono hT.size))
    | (go_at_call 41; (with_reducible refine (few2_2 h1 hd1).mono ?_); rintro e w' ⟨b1, m1, d1, rfl, hA, hb⟩; (try (replace h1 := h1.keep hb)); (try (replace h2 := h2.keep hb)); (try (replace hB := hB.keep hb)); (try (replace hX := hX.keep hb)); (try (replace hY := hY.keep hb)); (try (replace hZ := hZ.keep hb)); (try (replace hP := hP.keep hb)); (try (replace hQ := hQ.keep hb)); replace hT := hT.trans (hb.mono hT.size); clear h1; rw [eA] at hA)
    | (go_at_call 41; (with_reducible refine (few2_1 h2 hd2).mono ?_); rintro e w' ⟨b2, m2, d2, rfl, hB, hb⟩; (try (replace h1 := h1.keep hb)); (try (replace h2 := h2.keep hb)); (try (replace hA := hA.keep hb)); (try (replace hX := hX.keep hb)); (try (replace hY := hY.keep hb)); (try (replace hZ := hZ.keep hb)); (try (replace hP := hP.keep hb)); (try (replace hQ := hQ.keep hb)); replace hT := hT.trans (hb.mono hT.size); clear h2; rw [eB] at hB)
    | (go_at_call 15; (with_reducible refine (from_nm hB).mono ?_); rintro e w' ⟨b3, m3, d3, rfl, hY, hb⟩; (try (replace h1 := h1.keep hb)); (try (replace h2 := h2.keep hb)); (try (replace hA := hA.keep hb)); (try (replace hB := hB.keep hb)); (try (replace hX := hX.keep hb)); (try (replace hZ := hZ.keep hb)); (try (replace hP := hP.keep hb)); (try (replace hQ := hQ.keep hb)); replace hT := hT.trans (hb.mono hT.size))
    | (go_at_call 49; (with_reducible refine (next_any hA hB hA.lt.out HE.out hB.lt.out).mono ?_); rintro e w' ⟨p, hp, _, b5, m5, d5, rfl, hP, hb⟩; (try (replace h1 := h1.keep hb)); (try (replace h2 := h2.keep hb)); (try (replace hA := hA.keep hb)); (try (replace hB := hB.keep hb)); (try (replace hX := hX.keep hb)); (try (replace hY := hY.keep hb)); (try (replace hZ := hZ.keep hb)); (try (replace hQ := hQ.keep hb)); replace hT := hT.trans (hb.mono hT.size))
    | (go_at_call 27; (with_reducible refine (rbit0 hY 1 HE.out).mono ?_); rintro e w' ⟨rfl, rfl⟩)
    | (go_at_call 15; (with_reducible refine (from_nm hA).mono ?_); rintro e w' ⟨b6, m6, d6, rfl, hX, hb⟩; (try (replace h1 := h1.keep hb)); (try (replace h2 := h2.keep hb)); (try (replace hA := hA.keep hb)); (try (replace hB := hB.keep hb)); (try (replace hY := hY.keep hb)); (try (replace hZ := hZ.keep hb)); (try (replace hP := hP.keep hb)); (try (replace hQ := hQ.keep hb)); replace hT := hT.trans (hb.mono hT.size))
    | (go_at_call 50; (with_reducible refine (rnext_any hX hY hX.lt.out HE.out hY.lt.out).mono ?_); rintro e w' ⟨q, hq, _, b7, m7, d7, rfl, hQ, hb⟩; (try (replace h1 := h1.keep hb)); (try (replace h2 := h2.keep hb)); (try (replace hA := hA.keep hb)); (try (replace hB := hB.keep hb)); (try (replace hX := hX.keep hb)); (try (replace hY := hY.keep hb)); (try (replace hZ := hZ.keep hb)); (try (replace hP := hP.keep hb)); replace hT := hT.trans (hb.mono hT.size); obtain rfl := hq.unique hp)
    | (go_at_call 20; (with_reducible refine (is_nm hP hQ).mono ?_); rintro e w' ⟨rfl, hb⟩; (try (replace h1 := h1.keep hb)); (try (replace h2 := h2.keep hb)); (try (replace hA := hA.keep hb)); (try (replace hB := hB.keep hb)); (try (replace hX := hX.keep hb)); (try (replace hY := hY.keep hb)); (try (replace hZ := hZ.keep hb)); (try (replace hP := hP.keep hb)); (try (replace hQ := hQ.keep hb)); replace hT := hT.trans (hb.mono hT.size)))
  go_ret
  exact ⟨rfl, hT⟩

theorem mnext_law {a1 a2 : Option Addr} {n1 c1 n2 c2 : Nat} {xs ys : List Nat} {w : World} (h1 : Sl .u64 w a1 n1 c1 xs) (h2 : Sl .u64 w a2 n2 c2 ys) (hd1 : Dg 18446744073709551616 xs) (hd2 : Dg 18446744073709551616 ys) :
    Calls Try.prog 10 #[.slice a1 n1 c1, .slice a2 n2 c2] w (GivesBool w true) := by
  obtain ⟨A, eA⟩ : ∃ v, val 18446744073709551616 (xs.take 2) = v := ⟨_, rfl⟩
  obtain ⟨B, eB⟩ : ∃ v, val 18446744073709551616 (ys.take 1) = v := ⟨_, rfl⟩
  by_cases h : B % 2 = 0
  · exact mnext_even h1 h2 hd1 hd2 A B eA eB h
  · exact mnext_odd h1 h2 hd1 hd2 A B eA eB (by omega)

end Go.Proofs.Ytaeamlldocbeeaa
