/- limb: Quo, whole. -/
import Derived.Test.YtaeamlldocbeeaaLimb11
namespace Go.Proofs.Ytaeamlldocbeeaa
open Go.RowKit Num

/-- limb.Quo by a number that is not 0 -/
theorem quo_any {a1 a2 : Option Addr} {n1 c1 n2 c2 : Nat} {xs ys : List Nat} {w : World} (h1 : Sl .u64 w a1 n1 c1 xs) (h2 : Sl .u64 w a2 n2 c2 ys) (hd1 : Dg 18446744073709551616 xs) (hd2 : Dg 18446744073709551616 ys)
    (hn1 : n1 ≤ 1048576) (h0 : 0 < val 18446744073709551616 ys) :
    Calls Try.prog 16 #[.slice a1 n1 c1, .slice a2 n2 c2] w (GivesQ w (dig 18446744073709551616 (val 18446744073709551616 xs / val 18446744073709551616 ys)) (dig 18446744073709551616 (val 18446744073709551616 xs % val 18446744073709551616 ys)) true) := by
  by_cases hlt : val 18446744073709551616 xs < val 18446744073709551616 ys
  · rw [Nat.div_eq_of_lt hlt, Nat.mod_eq_of_lt hlt, dig_zero]
    exact quo_less h1 h2 hd1 hd2 (by omega) hlt
  · by_cases hW : val 18446744073709551616 ys < 18446744073709551616
    · exact quo_one h1 h2 hd1 hd2 (by omega) (by omega) h0 hW
    · exact quo_big h1 h2 hd1 hd2 hn1 (by omega) (by omega)

end Go.Proofs.Ytaeamlldocbeeaa
