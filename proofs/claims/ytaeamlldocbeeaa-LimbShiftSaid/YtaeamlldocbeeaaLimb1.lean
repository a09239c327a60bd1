/- limb: trim, made, Of, Norm, Cmp. -/
import Derived.Test.YtaeamlldocbeeaaBits
namespace Go.Proofs.Ytaeamlldocbeeaa
open Go.RowKit Num

theorem trim_any {a : Option Addr} {n c : Nat} {xs : List Nat} {w : World} (h : Sl .u64 w a n c xs) :
    Calls Try.prog 59 #[.slice a n c] w fun e w' => e = .returned (.slice a (tlen xs) c) ∧ w = w' := by
  cases a with
  | none =>
    obtain rfl : c = 0 := h.nil rfl
    obtain rfl : n = 0 := by have := h.le; omega
    obtain rfl : xs = [] := List.eq_nil_of_length_eq_zero h.len
    clear h
    go_enter Try.func59, Try.ntmps59
    go_wp2
    refine wp_loop_once ?_
    go_wp2
    go_ret
    exact ⟨rfl, rfl⟩
  | some p =>
    by_cases hc0 : c = 0
    · subst hc0
      obtain rfl : n = 0 := by have := h.le; omega
      obtain rfl : xs = [] := List.eq_nil_of_length_eq_zero h.len
      clear h
      go_enter Try.func59, Try.ntmps59
      go_wp2
      refine wp_loop_once ?_
      go_wp2
      go_ret
      exact ⟨rfl, rfl⟩
    obtain ⟨b, o, s⟩ := p
    have hs := h.spot _ rfl (by omega)
    simp at hs
    subst hs
    have hm := h.cap
    have hc := h.le
    have HN := mkHid h.len
    have HR := mkHid h
    clear h
    go_enter Try.func59, Try.ntmps59
    go_wp2
    go_loop [3] (fun i => ∃ k : Nat, k ≤ n ∧ i = .int .i64 k ∧ Hid (tlen xs = tlen (xs.take k))) (fun i => (intOf i).toNat)
    case atStart => exact ⟨n, Nat.le_refl _, rfl, by show tlen xs = _; rw [List.take_of_length_le (by rw [HN.out]; exact Nat.le_refl _)]⟩
    case round =>
      obtain ⟨k, hk, rfl, ht⟩ := hrel
      by_cases h0 : 0 < k
      · obtain ⟨j, rfl⟩ : ∃ j, k = j + 1 := ⟨k - 1, by omega⟩
        have hj : j < xs.length := by rw [HN.out]; omega
        have hx := HR.out.cell j hj
        generalize hxv : xs[j] = x at hx
        have HX := mkHid hxv
        clear hxv
        by_cases hz : x = 0
        · have hb : ((x : Int) == 0) = true := by simp [hz]
          have HZ := mkHid hz
          clear hz
          go_wp2
          go_round
          case rel => exact ⟨j, by omega, by go_num, by show tlen xs = _; rw [ht.out]; exact tlen_take _ _ hj (HX.out.trans HZ.out)⟩
          case measure => simp [intOf]
        · have hb : ((x : Int) == 0) = false := by simp [hz]
          have HZ := mkHid hz
          clear hz
          go_wp2
          go_ret
          refine ⟨?_, rfl⟩
          rw [ht.out, tlen_ne _ _ hj (by rw [HX.out]; exact HZ.out)]
          rfl
      · obtain rfl : k = 0 := by omega
        go_wp2
        go_ret
        refine ⟨?_, rfl⟩
        rw [ht.out]; rfl

/-- a trimmed slice reads the canonical digits -/
theorem Sl.trim {w : World} {a : Option Addr} {n c : Nat} {xs : List Nat} (h : Sl .u64 w a n c xs) (hd : Dg 18446744073709551616 xs) :
    Sl .u64 w a (tlen xs) c (dig 18446744073709551616 (val 18446744073709551616 xs)) := by
  rw [dig_val _ (by omega) hd]
  exact h.take _ (by rw [← h.len]; exact tlen_le xs)

theorem Own.trim {T : TypeId} {B : Nat} {w : World} {a : Option Addr} {n c : Nat} {xs : List Nat} (h : Own .u64 T B w a n c xs) (hd : Dg 18446744073709551616 xs) :
    Own .u64 T B w a (tlen xs) c (dig 18446744073709551616 (val 18446744073709551616 xs)) := by
  rw [dig_val _ (by omega) hd]
  exact h.take _ (by rw [← h.len]; exact tlen_le xs)

/-- limb.trim, of a number: its canonical digits, the memory as it was -/
theorem trim_sl {a : Option Addr} {n c : Nat} {xs : List Nat} {w : World} (h : Sl .u64 w a n c xs) (hd : Dg 18446744073709551616 xs) :
    Calls Try.prog 59 #[.slice a n c] w fun e w' => ∃ m, e = .returned (.slice a m c) ∧ m ≤ n ∧ Sl .u64 w a m c (dig 18446744073709551616 (val 18446744073709551616 xs)) ∧ w = w' :=
  (trim_any h).mono fun _ _ ⟨he, hw⟩ => ⟨_, he, by rw [← h.len]; exact tlen_le xs, h.trim hd, hw⟩

theorem trim_own {T B : Nat} {a : Option Addr} {n c : Nat} {xs : List Nat} {w : World} (h : Own .u64 T B w a n c xs) (hd : Dg 18446744073709551616 xs) :
    Calls Try.prog 59 #[.slice a n c] w fun e w' => ∃ m, e = .returned (.slice a m c) ∧ m ≤ n ∧ Own .u64 T B w a m c (dig 18446744073709551616 (val 18446744073709551616 xs)) ∧ w = w' :=
  (trim_any h.sl).mono fun _ _ ⟨he, hw⟩ => ⟨_, he, by rw [← h.len]; exact tlen_le xs, h.trim hd, hw⟩

end Go.Proofs.Ytaeamlldocbeeaa
