/- baileylaw1: Cut, few: the lowest limbs of a number, in memory of the call's own. -/
import Derived.Test.YtaeamlldocbeeaaBegun
namespace Go.Proofs.Ytaeamlldocbeeaa
open Go.RowKit Num

theorem cut_any {a : Option Addr} {n c : Nat} {xs : List Nat} {w : World} (h : Sl .u64 w a n c xs) (m : Nat) (hm : m ≤ 1048576) :
    Calls Try.prog 57 #[.slice a n c, .int .i64 (m : Int)] w (Gives .u64 54 w (xs.take m)) := by
  have hn63 := h.le
  have hc63 := h.cap
  by_cases hlt : n < m
  · have t1 : decide (n < m) = true := decide_eq_true hlt
    have ht := h.take n (Nat.le_refl _)
    have e : xs.take m = xs := List.take_of_length_le (by rw [h.len]; omega)
    rw [e]
    go_enter Try.func57, Try.ntmps57
    go_wp2_with (first
      | (at_builtin; refine wpList_app rfl (.const (.slice none 0 0)) (.tmp 13) 23 rfl 54 .u64 8 under_nat info_u64 w.heap.size none 0 0 [] rfl (Own.nilOwn _ _ _ _) _ _ _ _ rfl h (by omega) (by omega) (Nat.le_refl _) ?_; intro a3 c3 w3 ho hb))
    go_ret
    exact ⟨_, _, _, rfl, by simpa using ho, hb⟩
  · have t1 : decide (n < m) = false := decide_eq_false hlt
    have ht := h.take m (by omega)
    go_enter Try.func57, Try.ntmps57
    go_wp2_with (first
      | (at_builtin; refine wpList_app rfl (.const (.slice none 0 0)) (.tmp 13) 23 rfl 54 .u64 8 under_nat info_u64 w.heap.size none 0 0 [] rfl (Own.nilOwn _ _ _ _) _ _ _ _ rfl ht (by omega) (by omega) (Nat.le_refl _) ?_; intro a3 c3 w3 ho hb))
    go_ret
    exact ⟨_, _, _, rfl, by simpa using ho, hb⟩

theorem few_any {a : Option Addr} {n c : Nat} {xs : List Nat} {w : World} (h : Sl .u64 w a n c xs) :
    Calls Try.prog 14 #[.slice a n c] w (Gives .u64 54 w (xs.take 20)) := by
  have hcut : Calls Try.prog 57 #[.slice a n c, .int .i64 20] w (Gives .u64 54 w (xs.take 20)) := cut_any h 20 (by omega)
  go_enter Try.func14, Try.ntmps14
  go_wp2_with (go_at_call 57; (with_reducible refine hcut.mono ?_); rintro e w' ⟨a1, n1, c1, rfl, ho, hb⟩)
  go_ret
  exact ⟨_, _, _, rfl, ho, hb⟩

end Go.Proofs.Ytaeamlldocbeeaa
