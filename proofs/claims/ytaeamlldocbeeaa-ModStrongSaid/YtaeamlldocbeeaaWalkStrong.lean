/- ModStrong: the walk: it answers true. -/
import Derived.Test.YtaeamlldocbeeaaFew2
namespace Go.Proofs.Ytaeamlldocbeeaa
open Go.RowKit Num

set_option maxHeartbeats 1000000 in
theorem mstrong_law0 {a1 a2 : Option Addr} {n1 c1 n2 c2 : Nat} {xs ys : List Nat} {w : World} (h1 : Sl .u64 w a1 n1 c1 xs) (h2 : Sl .u64 w a2 n2 c2 ys) (hd1 : Dg 18446744073709551616 xs) (hd2 : Dg 18446744073709551616 ys)
    (A B : Nat) (eA : val 18446744073709551616 (xs.take 3) = A) (eB : val 18446744073709551616 (ys.take 3) = B) :
    Calls Try.prog 9 #[.slice a1 n1 c1, .slice a2 n2 c2] w (GivesBool w true) := by
  have hT : Below w.heap.size w w := Below.refl _ _
  go_enter Try.func9, Try.ntmps9
  go_wp2_with (first
    | (go_at_call 40; (with_reducible refine (begun2_any _).mono ?_); rintro e w' ⟨rfl, hb⟩; (try (replace h1 := h1.keep hb)); (try (replace h2 := h2.keep hb)); (try (replace hA := hA.keep hb)); (try (replace hB := hB.keep hb)); (try (replace hX := hX.keep hb)); (try (replace hY := hY.keep hb)); replace hT := hT.trans (hb.mono hT.size))
    | (go_at_call 41; (with_reducible refine (few2_3 h1 hd1).mono ?_); rintro e w' ⟨b1, m1, d1, rfl, hA, hb⟩; (try (replace h1 := h1.keep hb)); (try (replace h2 := h2.keep hb)); (try (replace hB := hB.keep hb)); (try (replace hX := hX.keep hb)); (try (replace hY := hY.keep hb)); replace hT := hT.trans (hb.mono hT.size); clear h1; rw [eA] at hA)
    | (go_at_call 41; (with_reducible refine (few2_3 h2 hd2).mono ?_); rintro e w' ⟨b2, m2, d2, rfl, hB, hb⟩; (try (replace h1 := h1.keep hb)); (try (replace h2 := h2.keep hb)); (try (replace hA := hA.keep hb)); (try (replace hX := hX.keep hb)); (try (replace hY := hY.keep hb)); replace hT := hT.trans (hb.mono hT.size); clear h2; rw [eB] at hB)
    | (go_at_call 47; (with_reducible refine (strong_any hA hB (by omega)).mono ?_); rintro e w' ⟨rfl, hb⟩; (try (replace h1 := h1.keep hb)); (try (replace h2 := h2.keep hb)); (try (replace hA := hA.keep hb)); (try (replace hB := hB.keep hb)); (try (replace hX := hX.keep hb)); (try (replace hY := hY.keep hb)); replace hT := hT.trans (hb.mono hT.size))
    | (go_at_call 15; (with_reducible refine (from_nm hA).mono ?_); rintro e w' ⟨b3, m3, d3, rfl, hX, hb⟩; (try (replace h1 := h1.keep hb)); (try (replace h2 := h2.keep hb)); (try (replace hA := hA.keep hb)); (try (replace hB := hB.keep hb)); (try (replace hY := hY.keep hb)); replace hT := hT.trans (hb.mono hT.size))
    | (go_at_call 15; (with_reducible refine (from_nm hB).mono ?_); rintro e w' ⟨b4, m4, d4, rfl, hY, hb⟩; (try (replace h1 := h1.keep hb)); (try (replace h2 := h2.keep hb)); (try (replace hA := hA.keep hb)); (try (replace hB := hB.keep hb)); (try (replace hX := hX.keep hb)); replace hT := hT.trans (hb.mono hT.size))
    | (go_at_call 48; (with_reducible refine (rstrong_any hX hY (by omega) (by omega)).mono ?_); rintro e w' ⟨rfl, hb⟩; (try (replace h1 := h1.keep hb)); (try (replace h2 := h2.keep hb)); (try (replace hA := hA.keep hb)); (try (replace hB := hB.keep hb)); (try (replace hX := hX.keep hb)); (try (replace hY := hY.keep hb)); replace hT := hT.trans (hb.mono hT.size)))
  go_ret
  exact ⟨rfl, hT⟩

theorem mstrong_law {a1 a2 : Option Addr} {n1 c1 n2 c2 : Nat} {xs ys : List Nat} {w : World} (h1 : Sl .u64 w a1 n1 c1 xs) (h2 : Sl .u64 w a2 n2 c2 ys) (hd1 : Dg 18446744073709551616 xs) (hd2 : Dg 18446744073709551616 ys) :
    Calls Try.prog 9 #[.slice a1 n1 c1, .slice a2 n2 c2] w (GivesBool w true) := by
  obtain ⟨A, eA⟩ : ∃ v, val 18446744073709551616 (xs.take 3) = v := ⟨_, rfl⟩
  obtain ⟨B, eB⟩ : ∃ v, val 18446744073709551616 (ys.take 3) = v := ⟨_, rfl⟩
  exact mstrong_law0 h1 h2 hd1 hd2 A B eA eB

end Go.Proofs.Ytaeamlldocbeeaa
