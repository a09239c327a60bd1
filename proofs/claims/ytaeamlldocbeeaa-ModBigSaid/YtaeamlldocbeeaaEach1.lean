/- limb: Each and its closure. -/
import Derived.RangeFuncNested
import Derived.RangeFuncBound
import Derived.RangeFuncCalls
import Derived.RangeFuncLeaves
import Derived.Shelf.Abstract
import Derived.Shelf.RegionOpen
import Derived.WalkKit
import Derived.OwnWalkIn
import Derived.TacticsInMore
import Derived.LoopNIn
import Derived.LoopIn
import Derived.Test.YtaeamlldocbeeaaLimbB
namespace Go.Proofs.Ytaeamlldocbeeaa
open Go.RowKit Go.Shelf Num

theorem Own.setOther {k : IntKind} {T : TypeId} {B : Nat} {w : World} {a : Option Addr} {n c : Nat} {xs : List Nat} (h : Own k T B w a n c xs) {b : Nat} (hb : b < B) (i : Nat) (x : Value) :
    Own k T B (w.setCell ⟨b, i, none⟩ x) a n c xs := by
  refine ⟨h.len, ?_⟩
  rcases h.row with h | ⟨b', ys, e, hB, hl, hc, hk⟩
  · exact .inl h
  · exact .inr ⟨b', ys, e, hB, hl, hc, hk.set_other (by omega) i x⟩

/-- a box holds a slice that reads xs -/
def BoxSl (w : World) (Bs : Nat) (v : Nat) : Prop :=
  ∃ a n c, w.cell? ⟨Bs, 0, none⟩ = some (.slice a n c) ∧ n ≤ 1099511627776 ∧ Sl .u64 w a n c (dig 18446744073709551616 v)

theorem each_any {a : Option Addr} {n c : Nat} {xs : List Nat} {w : World} (h : Sl .u64 w a n c xs) (hd : Dg 18446744073709551616 xs) (hn : n ≤ 1099511627776) :
    Calls Try.prog 26 #[.slice a n c] w fun e w' => ∃ Bs, e = .returned (.func (.func 71) #[] #[.pointer (some ⟨Bs, 0, none⟩)]) ∧ BoxSl w' Bs (val 18446744073709551616 xs) ∧ Below w.heap.size w w' := by
  go_enter Try.func26, Try.ntmps26
  have hb := (below_alloc (Obj.cells #[Value.slice a n c] 23) (Nat.le_refl w.heap.size))
  have hr : Row (w.alloc (Obj.cells #[Value.slice a n c] 23)) w.heap.size 23 [Value.slice a n c] := by
    unfold Row
    rw [heap_alloc_new]
  have hn1 : Hid ((dig 18446744073709551616 (val 18446744073709551616 xs)).length ≤ n) := by
    show _ ≤ _
    rw [dig_length_le _ (by omega), ← h.len]; exact val_lt hd
  go_wp2_with (go_at_call 60; (with_reducible refine (made_any (h.keep hb) hd hn).mono ?_); rintro e w' ⟨a1, n1, c1, rfl, ho, hb1⟩; have hr2 := hr.keep hb1; have hc2 := hr2.cell 0; have hf2 := hr2.frozen 0; simp only [List.getElem?_cons_zero] at hc2)
  go_ret
  have hb2 := (hb.trans (hb1.mono hb.size)).setCell (p := ⟨w.heap.size, 0, none⟩) (Nat.le_refl _) (.slice a1 n1 c1)
  have hlt : w.heap.size < (w.alloc (Obj.cells #[Value.slice a n c] 23)).heap.size := by rw [World.size_alloc]; omega
  refine ⟨_, rfl, ⟨a1, n1, c1, ?_, by rw [← ho.len]; exact Nat.le_trans hn1.out hn, (ho.setOther hlt 0 _).sl⟩, hb2⟩
  have := (hr2.set 0 (.slice a1 n1 c1)).cell 0
  simpa using this

/-- the values that Each's closure hands on: a place and the bit there -/
abbrev bitEnc (v : Nat) (k : Nat) : Array Value := #[.int .i64 (k : Int), .int .u64 (bitAt v k : Nat)]

/-- the places from the highest on, j of them -/
def downTo (n j : Nat) : List Nat := (List.range j).map fun i => n - 1 - i

theorem downTo_succ (n j : Nat) : downTo n (j + 1) = downTo n j ++ [n - 1 - j] := by simp [downTo, List.range_succ]

theorem downTo_length (n j : Nat) : (downTo n j).length = j := by simp [downTo]

theorem BoxSl.below {w w' : World} {Bs v : Nat} (h : BoxSl w Bs v) (hb : Below w.heap.size w w') : BoxSl w' Bs v := by
  obtain ⟨a, n, c, hc, hn, hs⟩ := h
  exact ⟨a, n, c, (hb.cell (World.block_lt_of_cell? _ _ hc)).trans hc, hn, hs.keep hb⟩

attribute [local go_sem] Oper.semAt_some

set_option maxRecDepth 100000 in
set_option maxHeartbeats 1000000 in
theorem each1_in (l Bs v : Nat) (w0 : World) (hbox : BoxSl w0 Bs v) (J Jx : List Nat → World → Prop)
    (hY : ∀ pre x W, J pre W → pre.length < bitLen v → YieldAt Fence.wide 2 Try.prog l (bitEnc v x) W fun e W' =>
      (e = .returned (.bool true) ∧ J (pre ++ [x]) W' ∧ Below w0.heap.size W W') ∨ (e = .returned (.bool false) ∧ Jx (pre ++ [x]) W'))
    (W : World) (hW : Below w0.heap.size w0 W) (h0 : J [] W) :
    CallsIn Fence.wide 3 Try.prog 71 #[.func (.yield l) #[] #[], .pointer (some ⟨Bs, 0, none⟩)] W fun e W' => (∃ v, e = .returned v) ∧
      ((∃ ys, ys = downTo (bitLen v) (bitLen v) ∧ J ys W') ∨ (∃ pre, (∃ j, j ≤ bitLen v ∧ pre = downTo (bitLen v) j) ∧ Jx pre W')) := by
  refine callsIn_of_wp Try.func71 rfl trivial ?_ rfl
  simp only [Try.ntmps71, List.size_toArray, List.length_cons, List.length_nil, Nat.reduceAdd, Nat.reduceSub, Array.replicate_succ, Array.replicate_zero, List.push_toArray, List.append_toArray, List.nil_append, List.cons_append]
  obtain ⟨a, n, c, hc, hn, hs⟩ := hbox
  have dv := Dg.dig 18446744073709551616 (by omega) v
  have vv := mkHid (val_dig 18446744073709551616 (by omega) v)
  have hc1 := (hW.cell (World.block_lt_of_cell? _ _ hc)).trans hc
  have hb1 := bits_any (hs.keep hW) dv hn
  rw [vv.out] at hb1
  obtain ⟨N, hN⟩ : ∃ N, N = bitLen v := ⟨_, rfl⟩
  rw [← hN] at hb1 hY
  have hN63 : N < 9223372036854775808 := by
    have h1 : v < 18446744073709551616 ^ n := by rw [← vv.out, ← hs.len]; exact val_lt dv
    have h2 : N ≤ 64 * n := by
      rw [hN, bitLen_le, Nat.pow_mul]; exact h1
    omega
  have HN := mkHid hN
  clear hN
  gi_wp2_with (refine ⟨trivial, ?_⟩; gi_at_call 28; refine (callsIn_wide.2 hb1).mono ?_; rintro e w' ⟨rfl, rfl⟩)
  gi_loopw [3] (fun iv wr => ∃ (j : Nat) (z : Int), j ≤ N ∧ z = (N : Int) - 1 - (j : Int) ∧ iv = .int .i64 z ∧ J (downTo N j) wr ∧ Below w0.heap.size W wr)
    (fun iv _ => (intOf iv + 1).toNat)
  case atStart => exact ⟨0, (N : Int) - 1, Nat.zero_le _, by omega, rfl, h0, Below.refl _ _⟩
  case round =>
    obtain ⟨j, z, hj, hz, rfl, hJs, hnx⟩ := hrel
    by_cases hlt : j < N
    · obtain ⟨m, hm⟩ : ∃ m, m = N - 1 - j := ⟨_, rfl⟩
      obtain rfl : z = (m : Int) := by omega
      obtain ⟨fn, tmps, assign, body, hy, hR⟩ := hY _ m wr hJs (by rw [downTo_length]; exact hlt)
      dsimp only [bitEnc] at hy
      have hc2 := (hnx.cell (p := ⟨Bs, 0, none⟩) (World.block_lt_of_cell? _ _ hc)).trans hc1
      have t1 : decide (0 ≤ (m : Int)) = true := decide_eq_true (by omega)
      have hb2 := bit_any (hs.keep (hW.trans hnx)) dv hn (m : Int) (by omega)
      rw [vv.out] at hb2
      have e9 : wrap64 ((m : Int) - 1) = (m : Int) - 1 := by unfold wrap64; omega
      have HM := mkHid hm
      have HZ := mkHid hz
      clear hm hz
      gi_wp2_with (refine ⟨trivial, ?_⟩; gi_at_call 29; refine (callsIn_wide.2 hb2).mono ?_; rintro e w' ⟨rfl, rfl⟩)
      refine hR.mono ?_
      rintro e W3 (⟨rfl, hJ3, hk3⟩ | ⟨rfl, hJx3⟩)
      · gi_wp2
        go_roundw
        case rel => exact ⟨j + 1, (m : Int) - 1, by omega, by have := HZ.out; omega, by rw [e9], by rw [downTo_succ, ← HM.out]; exact hJ3, hnx.trans hk3⟩
        case measure => simp [intOf, e9]
      · gi_wp2
        refine bodyPost_ret (results_none rfl _ _ _) rfl ?_
        exact ⟨⟨_, rfl⟩, .inr ⟨_, ⟨j + 1, by rw [← HN.out]; omega, by rw [← HN.out, downTo_succ, ← HM.out]⟩, hJx3⟩⟩
    · obtain rfl : j = N := by omega
      have t1 : decide (0 ≤ z) = false := decide_eq_false (by omega)
      clear hz
      gi_wp2
      go_end0
      exact ⟨⟨_, rfl⟩, .inl ⟨_, rfl, by rw [← HN.out]; exact hJs⟩⟩

/-- Each's closure hands on the places from the highest on -/
theorem each_stops (Bs v : Nat) (w0 : World) (hbox : BoxSl w0 Bs v) :
    SeqStopsK Fence.wide 3 Try.prog 71 #[.pointer (some ⟨Bs, 0, none⟩)] (bitEnc v) (Below w0.heap.size) (fun ys => ys = downTo (bitLen v) (bitLen v))
      (fun pre => ∃ j, j ≤ bitLen v ∧ pre = downTo (bitLen v) j) (bitLen v) w0 :=
  fun l J Jx W hW _ _ hY h0 => each1_in l Bs v w0 hbox J Jx hY W hW h0

end Go.Proofs.Ytaeamlldocbeeaa
