/- LawA: Few, Law0. -/
import Derived.Test.YtaeamlldocbeeaaDoorBegun
import Derived.Test.YtaeamlldocbeeaaDoorRefB

/- baileylaw1: Cut, few: the lowest limbs of a number, in memory of the call's own. -/

namespace Go.Proofs.YtaeamlldocbeeaaDoor
open Go.RowKit Num

theorem cut_any {a : Option Addr} {n c : Nat} {xs : List Nat} {w : World} (h : Sl .u64 w a n c xs) (m : Nat) (hm : m ≤ 1048576) :
    Calls Tryd.prog 10 #[.slice a n c, .int .i64 (m : Int)] w (Gives .u64 47 w (xs.take m)) := by
  have hn63 := h.le
  have hc63 := h.cap
  by_cases hlt : n < m
  · have t1 : decide (n < m) = true := decide_eq_true hlt
    have ht := h.take n (Nat.le_refl _)
    have e : xs.take m = xs := List.take_of_length_le (by rw [h.len]; omega)
    rw [e]
    go_enter Tryd.func10, Tryd.ntmps10
    go_wp2_with (first
      | (at_builtin; refine wpList_app rfl (.const (.slice none 0 0)) (.tmp 13) 31 rfl 47 .u64 8 under_nat info_u64 w.heap.size none 0 0 [] rfl (Own.nilOwn _ _ _ _) _ _ _ _ rfl h (by omega) (by omega) (Nat.le_refl _) ?_; intro a3 c3 w3 ho hb))
    go_ret
    exact ⟨_, _, _, rfl, by simpa using ho, hb⟩
  · have t1 : decide (n < m) = false := decide_eq_false hlt
    have ht := h.take m (by omega)
    go_enter Tryd.func10, Tryd.ntmps10
    go_wp2_with (first
      | (at_builtin; refine wpList_app rfl (.const (.slice none 0 0)) (.tmp 13) 31 rfl 47 .u64 8 under_nat info_u64 w.heap.size none 0 0 [] rfl (Own.nilOwn _ _ _ _) _ _ _ _ rfl ht (by omega) (by omega) (Nat.le_refl _) ?_; intro a3 c3 w3 ho hb))
    go_ret
    exact ⟨_, _, _, rfl, by simpa using ho, hb⟩

end Go.Proofs.YtaeamlldocbeeaaDoor

/- Helpers for the laws of layer 1: bounds on numbers, answers that are the same. -/

namespace Go.Proofs.YtaeamlldocbeeaaDoor
open Go.RowKit Num

/-- a number of at most m bits -/
structure Lt2 (m v : Nat) : Prop where
  out : v < 2 ^ m

theorem Lt2.mono {m k v : Nat} (h : Lt2 m v) (hk : m ≤ k) : Lt2 k v := ⟨Nat.lt_of_lt_of_le h.out (Nat.pow_le_pow_right (by omega) hk)⟩

theorem Lt2.le {m u v : Nat} (h : Lt2 m v) (hk : u ≤ v) : Lt2 m u := ⟨Nat.lt_of_le_of_lt hk h.out⟩

theorem Lt2.add {m k u v : Nat} (h : Lt2 m u) (h' : Lt2 k v) : Lt2 (m + k + 1) (u + v) := by
  have h1 := h.out
  have h2 := h'.out
  have e : 2 ^ (m + k + 1) = 2 ^ m * 2 ^ k + 2 ^ m * 2 ^ k := by rw [Nat.pow_succ, Nat.pow_add]; omega
  have h3 : 2 ^ m ≤ 2 ^ m * 2 ^ k := Nat.le_mul_of_pos_right _ (Nat.two_pow_pos k)
  have h4 : 2 ^ k ≤ 2 ^ m * 2 ^ k := Nat.le_mul_of_pos_left _ (Nat.two_pow_pos m)
  exact ⟨by omega⟩

theorem Lt2.mul {m k u v : Nat} (h : Lt2 m u) (h' : Lt2 k v) : Lt2 (m + k) (u * v) :=
  ⟨by rw [Nat.pow_add]; exact Nat.mul_lt_mul'' h.out h'.out⟩

theorem Lt2.take_le {xs : List Nat} (h : Dg 18446744073709551616 xs) (m : Nat) (hm : 1280 ≤ m) : Lt2 m (val 18446744073709551616 (xs.take 20)) := by
  have h1 := val_lt (h.take 20)
  refine ⟨Nat.lt_of_lt_of_le h1 ?_⟩
  rw [pow_W]
  refine Nat.pow_le_pow_right (by omega) ?_
  have : (xs.take 20).length ≤ 20 := by rw [List.length_take]; omega
  omega

theorem Lt2.take {xs : List Nat} (h : Dg 18446744073709551616 xs) : Lt2 1280 (val 18446744073709551616 (xs.take 20)) := Lt2.take_le h 1280 (Nat.le_refl _)

theorem dig_short {B m v : Nat} (hB : 2 ≤ B) (h : Lt2 m v) : (dig B v).length ≤ m := by
  rw [dig_length_le _ (by omega)]
  exact Nat.lt_of_lt_of_le h.out (Nat.pow_le_pow_left hB m)

theorem Sl.short {k : IntKind} {w : World} {a : Option Addr} {n c B m v : Nat} (h : Sl k w a n c (dig B v)) (hB : 2 ≤ B) (hv : Lt2 m v) (hm : m ≤ 1000000) : n ≤ 1000000 := by
  have := dig_short hB hv
  rw [h.len] at this
  omega

theorem Sl.shortW {k : IntKind} {w : World} {a : Option Addr} {n c m v : Nat} (h : Sl k w a n c (dig 18446744073709551616 v)) (hv : Lt2 m v) (hm : m ≤ 1000000) : n ≤ 1099511627776 :=
  Nat.le_trans (h.short (by omega) hv hm) (by omega)

theorem Sl.shortV {k : IntKind} {w : World} {a : Option Addr} {n c m v : Nat} (h : Sl k w a n c (dig 4294967296 v)) (hv : Lt2 m v) (hm : m ≤ 1000000) : n ≤ 1099511627776 :=
  Nat.le_trans (h.short (by omega) hv hm) (by omega)

theorem Own.short20 {k : IntKind} {T : TypeId} {B : Nat} {w : World} {a : Option Addr} {n c : Nat} {xs : List Nat} (h : Own k T B w a n c (xs.take 20)) : n ≤ 20 := by
  rw [← h.len, List.length_take]; omega

/-- 'Is' of a number's two readings answers true -/
theorem is_yes {a1 a2 : Option Addr} {n1 c1 n2 c2 m v : Nat} {w : World} (h1 : Sl .u64 w a1 n1 c1 (dig 18446744073709551616 v)) (h2 : Sl .u64 w a2 n2 c2 (dig 4294967296 v)) (hv : Lt2 m v) (hm : m ≤ 1000000) :
    Calls Tryd.prog 13 #[.slice a1 n1 c1, .slice a2 n2 c2] w (GivesBool w true) := by
  have := is_any h1 h2 (h1.shortW hv hm) (h2.shortV hv hm)
  rwa [decide_eq_true rfl] at this

theorem dgW (v : Nat) : Dg 18446744073709551616 (dig 18446744073709551616 v) := Dg.dig _ (by omega) v

theorem valW (v : Nat) : val 18446744073709551616 (dig 18446744073709551616 v) = v := val_dig _ (by omega) v

end Go.Proofs.YtaeamlldocbeeaaDoor
