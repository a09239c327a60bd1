/- baileylaw2.few. -/
import Derived.Test.YtaeamlldocbeeaaBegun2
import Derived.Test.YtaeamlldocbeeaaRmod5
namespace Go.Proofs.Ytaeamlldocbeeaa
open Go.RowKit Num

theorem Nm.bits {w : World} {a : Option Addr} {n c m v : Nat} (h : Nm w a n c m v) {b : Nat} (hm : m ≤ b) : bitLen v ≤ b := (bitLen_le _ _).2 (Nat.lt_of_lt_of_le h.lt.out (Nat.pow_le_pow_right (by omega) hm))

theorem may_two {w : World} {a1 a2 : Option Addr} {n1 c1 n2 c2 m k u v : Nat} (h : Nm w a1 n1 c1 m u) (h' : Nm w a2 n2 c2 k v) (hm : m ≤ 4096) (hk : k ≤ 4096) : mayB [u, v] = true := by
  simp [mayB, h.bits hm, h'.bits hk]

theorem may_three {w : World} {a1 a2 a3 : Option Addr} {n1 c1 n2 c2 n3 c3 m k l u v x : Nat} (h : Nm w a1 n1 c1 m u) (h' : Nm w a2 n2 c2 k v) (h'' : Nm w a3 n3 c3 l x) (hm : m ≤ 4096) (hk : k ≤ 4096) (hl : l ≤ 4096) : mayB [u, v, x] = true := by
  simp [mayB, h.bits hm, h'.bits hk, h''.bits hl]

theorem rbit0 {w : World} {a : Option Addr} {n c m v : Nat} (h : Rf w a n c m v) (t : Nat) (ht : v % 2 = t) : Calls Try.prog 27 #[.slice a n c, .int .i64 0] w (RetN .u64 w t) := by
  have := rbit_nm h 0 (by omega)
  rwa [bit0, ht] at this

theorem inv_no {w : World} {a1 a2 : Option Addr} {n1 c1 n2 c2 m k u v : Nat} (h : Nm w a1 n1 c1 m u) (h' : Nm w a2 n2 c2 k v) (hv : 2 ≤ v) (hm : mayB [u, v] = true) (hk : k ≤ 400000) (hn : ¬ (invL v v (u % v) 0 1).1 = 1) : Calls Try.prog 44 #[.slice a1 n1 c1, .slice a2 n2 c2] w (GivesNo w) :=
  (inv_any h h' hv hm hk).mono fun _ _ hg => hg.2 hn

theorem inv_yes {w : World} {a1 a2 : Option Addr} {n1 c1 n2 c2 m k u v : Nat} (h : Nm w a1 n1 c1 m u) (h' : Nm w a2 n2 c2 k v) (hv : 2 ≤ v) (hm : mayB [u, v] = true) (hk : k ≤ 400000) (hn : (invL v v (u % v) 0 1).1 = 1) : Calls Try.prog 44 #[.slice a1 n1 c1, .slice a2 n2 c2] w (GivesCB w true k (invL v v (u % v) 0 1).2) :=
  (inv_any h h' hv hm hk).mono fun _ _ hg => hg.1 hn

theorem rinv_no {w : World} {a1 a2 : Option Addr} {n1 c1 n2 c2 m k u v : Nat} (h : Rf w a1 n1 c1 m u) (h' : Rf w a2 n2 c2 k v) (hv : 2 ≤ v) (hk : k ≤ 400000) (hn : ¬ (invL v v (u % v) 0 1).1 = 1) : Calls Try.prog 46 #[.slice a1 n1 c1, .slice a2 n2 c2] w (GivesNoF w) :=
  (rinv_nm h h' hv hk).mono fun _ _ hg => hg.2 hn

theorem rinv_yes {w : World} {a1 a2 : Option Addr} {n1 c1 n2 c2 m k u v : Nat} (h : Rf w a1 n1 c1 m u) (h' : Rf w a2 n2 c2 k v) (hv : 2 ≤ v) (hk : k ≤ 400000) (hn : (invL v v (u % v) 0 1).1 = 1) : Calls Try.prog 46 #[.slice a1 n1 c1, .slice a2 n2 c2] w (GivesFB w true k (invL v v (u % v) 0 1).2) :=
  (rinv_nm h h' hv hk).mono fun _ _ hg => hg.1 hn

theorem Lt2.taken {xs : List Nat} (k : Nat) (hd : Dg 18446744073709551616 xs) : Lt2 (64 * k) (val 18446744073709551616 (xs.take k)) := by
  refine ⟨Nat.lt_of_lt_of_le (val_lt (hd.take k)) ?_⟩
  rw [pow_W]
  exact Nat.pow_le_pow_right (by omega) (Nat.mul_le_mul_left _ (List.length_take_le _ _))

theorem few2_nm {a : Option Addr} {n c : Nat} {xs : List Nat} {w : World} (h : Sl .u64 w a n c xs) (hd : Dg 18446744073709551616 xs) (k : Nat) (hk : k ≤ 16) : Calls Try.prog 41 #[.slice a n c, .int .i64 (k : Int)] w fun e w' =>
    ∃ a n c, e = .returned (.slice a n c) ∧ Nm w' a n c (64 * k) (val 18446744073709551616 (xs.take k)) ∧ Below w.heap.size w w' := by
  have hcut := cut_any h k (by omega)
  go_enter Try.func41, Try.ntmps41
  go_wp2_with (go_at_call 57; (with_reducible refine hcut.mono ?_); rintro e w' ⟨a1, n1, c1, rfl, ho, hb⟩)
  go_ret
  refine ⟨_, _, _, rfl, ⟨⟨_, ho.sl, hd.take k, rfl⟩, Lt2.taken k hd, by omega, ?_⟩, hb⟩
  have := ho.sl.len
  have := List.length_take_le k xs
  omega

theorem few2_1 {a : Option Addr} {n c : Nat} {xs : List Nat} {w : World} (h : Sl .u64 w a n c xs) (hd : Dg 18446744073709551616 xs) : Calls Try.prog 41 #[.slice a n c, .int .i64 1] w fun e w' =>
    ∃ a n c, e = .returned (.slice a n c) ∧ Nm w' a n c 64 (val 18446744073709551616 (xs.take 1)) ∧ Below w.heap.size w w' := few2_nm h hd 1 (by omega)

theorem few2_2 {a : Option Addr} {n c : Nat} {xs : List Nat} {w : World} (h : Sl .u64 w a n c xs) (hd : Dg 18446744073709551616 xs) : Calls Try.prog 41 #[.slice a n c, .int .i64 2] w fun e w' =>
    ∃ a n c, e = .returned (.slice a n c) ∧ Nm w' a n c 128 (val 18446744073709551616 (xs.take 2)) ∧ Below w.heap.size w w' := few2_nm h hd 2 (by omega)

theorem few2_3 {a : Option Addr} {n c : Nat} {xs : List Nat} {w : World} (h : Sl .u64 w a n c xs) (hd : Dg 18446744073709551616 xs) : Calls Try.prog 41 #[.slice a n c, .int .i64 3] w fun e w' =>
    ∃ a n c, e = .returned (.slice a n c) ∧ Nm w' a n c 192 (val 18446744073709551616 (xs.take 3)) ∧ Below w.heap.size w w' := few2_nm h hd 3 (by omega)

theorem few2_4 {a : Option Addr} {n c : Nat} {xs : List Nat} {w : World} (h : Sl .u64 w a n c xs) (hd : Dg 18446744073709551616 xs) : Calls Try.prog 41 #[.slice a n c, .int .i64 4] w fun e w' =>
    ∃ a n c, e = .returned (.slice a n c) ∧ Nm w' a n c 256 (val 18446744073709551616 (xs.take 4)) ∧ Below w.heap.size w w' := few2_nm h hd 4 (by omega)

theorem few2_5 {a : Option Addr} {n c : Nat} {xs : List Nat} {w : World} (h : Sl .u64 w a n c xs) (hd : Dg 18446744073709551616 xs) : Calls Try.prog 41 #[.slice a n c, .int .i64 5] w fun e w' =>
    ∃ a n c, e = .returned (.slice a n c) ∧ Nm w' a n c 320 (val 18446744073709551616 (xs.take 5)) ∧ Below w.heap.size w w' := few2_nm h hd 5 (by omega)

theorem few2_6 {a : Option Addr} {n c : Nat} {xs : List Nat} {w : World} (h : Sl .u64 w a n c xs) (hd : Dg 18446744073709551616 xs) : Calls Try.prog 41 #[.slice a n c, .int .i64 6] w fun e w' =>
    ∃ a n c, e = .returned (.slice a n c) ∧ Nm w' a n c 384 (val 18446744073709551616 (xs.take 6)) ∧ Below w.heap.size w w' := few2_nm h hd 6 (by omega)

end Go.Proofs.Ytaeamlldocbeeaa
