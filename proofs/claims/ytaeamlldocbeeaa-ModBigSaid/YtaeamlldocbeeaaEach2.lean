/- limb: Each's closure where the body of a round may turn older memory. -/
import Derived.Test.YtaeamlldocbeeaaEach1
import Derived.Test.YtaeamlldocbeeaaLimbC
namespace Go.Proofs.Ytaeamlldocbeeaa
open Go.RowKit Go.Shelf Num

/-- a box holds the slice (a, n, c), which reads the number v -/
structure BoxAt (Bs : Nat) (a : Option Addr) (n c v : Nat) (w : World) : Prop where
  cell : w.cell? ⟨Bs, 0, none⟩ = some (.slice a n c)
  sl : Sl .u64 w a n c (dig 18446744073709551616 v)

/-- a box from block B on holds a slice of its own memory from there on, which reads the number v -/
structure BoxOw (B : Nat) (w : World) (Bs v : Nat) : Prop where
  ex : ∃ a n c, w.cell? ⟨Bs, 0, none⟩ = some (.slice a n c) ∧ n ≤ 1099511627776 ∧ Own .u64 54 B w a n c (dig 18446744073709551616 v)
  hB : B ≤ Bs

/-- the blocks from B to S are as they were -/
structure Mid (B S : Nat) (A C : World) : Prop where
  size : A.heap.size ≤ C.heap.size
  block : ∀ b, B ≤ b → b < S → C.heap[b]? = A.heap[b]?

theorem Mid.trans {B S : Nat} {X Y Z : World} (h : Mid B S X Y) (k : Mid B S Y Z) : Mid B S X Z :=
  ⟨Nat.le_trans h.size k.size, fun b h1 h2 => (k.block b h1 h2).trans (h.block b h1 h2)⟩

theorem Mid.put {B S : Nat} {w : World} (hn : S ≤ w.heap.size) (W : World) (l : Nat) (o o' : Obj) (hl : w.heap.size ≤ l) (h : W.heap[l]? = some o) (h1 : o.isCells = false) (h2 : o.isWalk = false) : Mid B S W (W.putObj l o') := by
  have := belowK_b (n₀ := S) hn W l o o' hl h h1 h2
  exact ⟨this.size, fun b _ hb => this.block b hb⟩

theorem Mid.ofGrown {B S g : Nat} {A C : World} (h : A.grownBy C (some g)) (hg : g < B) (hS : S ≤ A.heap.size) : Mid B S A C :=
  ⟨h.size, fun b h1 h2 => h.block b (by omega) (by simp; omega)⟩

theorem each_own {a : Option Addr} {n c : Nat} {xs : List Nat} {w : World} (h : Sl .u64 w a n c xs) (hd : Dg 18446744073709551616 xs) (hn : n ≤ 1099511627776) :
    Calls Try.prog 26 #[.slice a n c] w fun e w' => ∃ Bs, e = .returned (.func (.func 71) #[] #[.pointer (some ⟨Bs, 0, none⟩)]) ∧ BoxOw w.heap.size w' Bs (val 18446744073709551616 xs) ∧ Below w.heap.size w w' := by
  go_enter Try.func26, Try.ntmps26
  have hb := (below_alloc (Obj.cells #[Value.slice a n c] 23) (Nat.le_refl w.heap.size))
  have hr : Row (w.alloc (Obj.cells #[Value.slice a n c] 23)) w.heap.size 23 [Value.slice a n c] := by
    unfold Row
    rw [heap_alloc_new]
  have hn1 : Hid ((dig 18446744073709551616 (val 18446744073709551616 xs)).length ≤ n) := by
    show _ ≤ _
    rw [dig_length_le _ (by omega), ← h.len]; exact val_lt hd
  go_wp2_with (go_at_call 60; (with_reducible refine (made_any (h.keep hb) hd hn).mono ?_); rintro e w' ⟨a1, n1, c1, rfl, ho, hb1⟩; have hr2 := hr.keep hb1; have hc2 := hr2.cell 0; have hf2 := hr2.frozen 0; simp only [List.getElem?_cons_zero] at hc2)
  go_ret
  have hb2 := (hb.trans (hb1.mono hb.size)).setCell (p := ⟨w.heap.size, 0, none⟩) (Nat.le_refl _) (.slice a1 n1 c1)
  have hlt : w.heap.size < (w.alloc (Obj.cells #[Value.slice a n c] 23)).heap.size := by rw [World.size_alloc]; omega
  refine ⟨_, rfl, ⟨⟨a1, n1, c1, ?_, by rw [← ho.len]; exact Nat.le_trans hn1.out hn, (ho.setOther hlt 0 _).mono (by omega)⟩, Nat.le_refl _⟩, hb2⟩
  have := (hr2.set 0 (.slice a1 n1 c1)).cell 0
  simpa using this

attribute [local go_sem] Oper.semAt_some

set_option maxRecDepth 100000 in
set_option maxHeartbeats 1000000 in
theorem each2_in (l Bs v : Nat) (a : Option Addr) (n c : Nat) (Kp : World → World → Prop) (hKp : ∀ A C, Kp A C → BoxAt Bs a n c v A → BoxAt Bs a n c v C) (J Jx : List Nat → World → Prop)
    (hY : ∀ pre x W, J pre W → pre.length < bitLen v → YieldAt Fence.wide 2 Try.prog l (bitEnc v x) W fun e W' =>
      (e = .returned (.bool true) ∧ J (pre ++ [x]) W' ∧ Kp W W') ∨ (e = .returned (.bool false) ∧ Jx (pre ++ [x]) W'))
    (W : World) (hW : BoxAt Bs a n c v W) (hn : n ≤ 1099511627776) (h0 : J [] W) :
    CallsIn Fence.wide 3 Try.prog 71 #[.func (.yield l) #[] #[], .pointer (some ⟨Bs, 0, none⟩)] W fun e W' => (∃ v, e = .returned v) ∧
      ((∃ ys, ys = downTo (bitLen v) (bitLen v) ∧ J ys W') ∨ (∃ pre, (∃ j, j ≤ bitLen v ∧ pre = downTo (bitLen v) j) ∧ Jx pre W')) := by
  refine callsIn_of_wp Try.func71 rfl trivial ?_ rfl
  simp only [Try.ntmps71, List.size_toArray, List.length_cons, List.length_nil, Nat.reduceAdd, Nat.reduceSub, Array.replicate_succ, Array.replicate_zero, List.push_toArray, List.append_toArray, List.nil_append, List.cons_append]
  have dv := Dg.dig 18446744073709551616 (by omega) v
  have vv := mkHid (val_dig 18446744073709551616 (by omega) v)
  have hc1 := hW.cell
  have hb1 := bits_any hW.sl dv hn
  rw [vv.out] at hb1
  obtain ⟨N, hN⟩ : ∃ N, N = bitLen v := ⟨_, rfl⟩
  rw [← hN] at hb1 hY
  have hN63 : N < 9223372036854775808 := by
    have h1 : v < 18446744073709551616 ^ n := by rw [← vv.out, ← hW.sl.len]; exact val_lt dv
    have h2 : N ≤ 64 * n := by
      rw [hN, bitLen_le, Nat.pow_mul]; exact h1
    omega
  have HN := mkHid hN
  clear hN
  gi_wp2_with (refine ⟨trivial, ?_⟩; gi_at_call 28; refine (callsIn_wide.2 hb1).mono ?_; rintro e w' ⟨rfl, rfl⟩)
  gi_loopw [3] (fun iv wr => ∃ (j : Nat) (z : Int), j ≤ N ∧ z = (N : Int) - 1 - (j : Int) ∧ iv = .int .i64 z ∧ J (downTo N j) wr ∧ BoxAt Bs a n c v wr)
    (fun iv _ => (intOf iv + 1).toNat)
  case atStart => exact ⟨0, (N : Int) - 1, Nat.zero_le _, by omega, rfl, h0, hW⟩
  case round =>
    obtain ⟨j, z, hj, hz, rfl, hJs, hnx⟩ := hrel
    by_cases hlt : j < N
    · obtain ⟨m, hm⟩ : ∃ m, m = N - 1 - j := ⟨_, rfl⟩
      obtain rfl : z = (m : Int) := by omega
      obtain ⟨fn, tmps, assign, body, hy, hR⟩ := hY _ m wr hJs (by rw [downTo_length]; exact hlt)
      dsimp only [bitEnc] at hy
      have hc2 := hnx.cell
      have t1 : decide (0 ≤ (m : Int)) = true := decide_eq_true (by omega)
      have hb2 := bit_any hnx.sl dv hn (m : Int) (by omega)
      rw [vv.out] at hb2
      have e9 : wrap64 ((m : Int) - 1) = (m : Int) - 1 := by unfold wrap64; omega
      have HM := mkHid hm
      have HZ := mkHid hz
      clear hm hz
      gi_wp2_with (refine ⟨trivial, ?_⟩; gi_at_call 29; refine (callsIn_wide.2 hb2).mono ?_; rintro e w' ⟨rfl, rfl⟩)
      refine hR.mono ?_
      rintro e W3 (⟨rfl, hJ3, hk3⟩ | ⟨rfl, hJx3⟩)
      · gi_wp2
        go_roundw
        case rel => exact ⟨j + 1, (m : Int) - 1, by omega, by have := HZ.out; omega, by rw [e9], by rw [downTo_succ, ← HM.out]; exact hJ3, hKp _ _ hk3 hnx⟩
        case measure => simp [intOf, e9]
      · gi_wp2
        refine bodyPost_ret (results_none rfl _ _ _) rfl ?_
        exact ⟨⟨_, rfl⟩, .inr ⟨_, ⟨j + 1, by rw [← HN.out]; omega, by rw [← HN.out, downTo_succ, ← HM.out]⟩, hJx3⟩⟩
    · obtain rfl : j = N := by omega
      have t1 : decide (0 ≤ z) = false := decide_eq_false (by omega)
      clear hz
      gi_wp2
      go_end0
      exact ⟨⟨_, rfl⟩, .inl ⟨_, rfl, by rw [← HN.out]; exact hJs⟩⟩

theorem Sl.mid {B S : Nat} {A C : World} {a : Option Addr} {n c : Nat} {xs : List Nat} (h : Sl .u64 A a n c xs) (hk : Mid B S A C) (hB : ∀ b i, a = some ⟨b, i, none⟩ → B ≤ b ∧ b < S) : Sl .u64 C a n c xs := by
  refine ⟨h.len, h.le, h.cap, h.nil, h.spot, fun i hi => ?_⟩
  obtain ⟨b, o, e, hc⟩ := h.rd i hi
  obtain ⟨h1, h2⟩ := hB b o e
  refine ⟨b, o, e, ?_⟩
  rw [World.cell?_of_block (hk.block b h1 h2)]
  exact hc

/-- Each's closure hands on the places from the highest on; the body keeps what Each has made -/
theorem each_stopsM (B Bs v : Nat) (w0 : World) (hbox : BoxOw B w0 Bs v) :
    SeqStopsK Fence.wide 3 Try.prog 71 #[.pointer (some ⟨Bs, 0, none⟩)] (bitEnc v) (Mid B w0.heap.size) (fun ys => ys = downTo (bitLen v) (bitLen v))
      (fun pre => ∃ j, j ≤ bitLen v ∧ pre = downTo (bitLen v) j) (bitLen v) w0 := by
  obtain ⟨a, n, c, hc, hn, ho⟩ := hbox.ex
  have hl := World.block_lt_of_cell? _ _ hc
  intro l J Jx W hW _ _ hY h0
  refine each2_in l Bs v a n c _ ?_ J Jx hY W ⟨(hW.cell hl).trans hc, ho.sl.keep hW⟩ hn h0
  intro A C hk hA
  refine ⟨(World.cell?_of_block (hk.block Bs hbox.hB hl)).trans hA.cell, Sl.mid hA.sl hk ?_⟩
  intro b i e
  rcases ho.row with ⟨e', _⟩ | ⟨b', ys, e', hB', _, _, hr⟩
  · rw [e'] at e; cases e
  · rw [e'] at e; cases e
    exact ⟨hB', hr.lt⟩

theorem ownFrom_grown {β : Type} {w0 : World} {B g : Nat} (hB : w0.heap.size ≤ B) : OwnFrom B (fun (_ : β) W => w0.grownBy W (some g)) := by
  intro s W W' row hs hg hr
  refine ⟨hg.os.trans hs.os, hg.tape.trans hs.tape, hg.output.trans hs.output, Nat.le_trans hs.size hg.size, fun i hi hne => ?_⟩
  refine (hg.block i (Nat.lt_of_lt_of_le hi hs.size) ?_).trans (hs.block i hi hne)
  intro e
  have := (hr i e.symm).1
  omega

end Go.Proofs.Ytaeamlldocbeeaa
