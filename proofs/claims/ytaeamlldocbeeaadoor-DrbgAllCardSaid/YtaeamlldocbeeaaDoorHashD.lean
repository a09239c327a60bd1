/- hashes: Clone, Chunks. -/
import Derived.Test.YtaeamlldocbeeaaDoorRangeB
import Derived.Lib.SliceRun
namespace Go.Proofs.YtaeamlldocbeeaaDoor
open Go.RowKit Go.Shelf Num

set_option maxRecDepth 20000 in
theorem clone_any {a : Option Addr} {n c : Nat} {xs : List Nat} {w : World} (h : Sl .u8 w a n c xs) (hn : n ≤ 70368744177664) (hne : a ≠ none) :
    Calls Tryd.prog 77 #[.slice a n c] w fun e w' => ∃ a' c', e = .returned (.slice a' n c') ∧ Own .u8 5 w.heap.size w' a' n c' xs ∧ Below w.heap.size w w' := by
  obtain ⟨p, rfl⟩ : ∃ p, a = some p := Option.ne_none_iff_exists'.1 hne
  go_enter Tryd.func77, Tryd.ntmps77
  have hq : (binOp .eql 22 (.slice (some p) n c) (.slice none 0 0)).run Tryd.prog w = .ok (.bool false) w := Lib.run_eql_slice_nil w 22 5 _ _ _ _ _ under_bytes
  have hblk : Blk (w.alloc (Obj.cells #[] 5)) w.heap.size .u8 5 [] := heap_alloc_new _ _
  have hb0 := below_alloc (Obj.cells #[] 5) (Nat.le_refl w.heap.size)
  have h1 := h.keep hb0
  have hsz : w.heap.size ≤ (w.alloc (Obj.cells #[] 5)).heap.size := hb0.size
  go_wp2_with (at_builtin; refine wpList_app rfl (.tmp 5) (.tmp 6) 22 rfl 5 .u8 1 under_bytes info_u8 w.heap.size (some ⟨w.heap.size, 0, none⟩) 0 0 [] rfl (Own.ofBlk hblk (Nat.le_refl _) 0 rfl (by omega)) _ _ _ _ rfl h1 (by omega) (by omega) hsz ?_; intro a3 c3 w3 ho hb)
  go_ret
  rw [Nat.zero_add, List.nil_append] at ho
  exact ⟨_, _, rfl, ho, hb0.trans hb⟩

theorem clone_nil {c : Nat} {w : World} : Calls Tryd.prog 77 #[.slice none 0 c] w fun e w' => e = .returned (.slice none 0 0) ∧ w = w' := by
  have hq : (binOp .eql 22 (.slice none 0 c) (.slice none 0 0)).run Tryd.prog w = .ok (.bool true) w := Lib.run_eql_slice_nil w 22 5 _ _ _ _ _ under_bytes
  go_enter Tryd.func77, Tryd.ntmps77
  go_wp2
  go_ret
  exact ⟨rfl, rfl⟩

theorem chunks_any {a : Option Addr} {n c : Nat} {w : World} :
    Calls Tryd.prog 75 #[.slice a n c, .int .i64 64] w fun e w' => e = .returned (.func (.func 89) #[] #[.pointer (some ⟨w.heap.size + 1, 0, none⟩), .pointer (some ⟨w.heap.size, 0, none⟩)]) ∧
      w' = (w.alloc (Obj.cells #[.slice a n c] 22)).alloc (Obj.cells #[.int .i64 64] 3) := by
  go_enter Tryd.func75, Tryd.ntmps75
  go_wp2
  go_ret
  exact ⟨rfl, rfl⟩

/-- the k-th piece -/
def chunk (all : List Nat) (k : Nat) : List Nat := (all.drop (64 * k)).take 64

structure Pc where
  i : Nat
  a : Option Addr
  n : Nat
  c : Nat

def pcEnc (x : Pc) : Array Value := #[.int .i64 (x.i : Int), .slice x.a x.n x.c]

/-- what is said of a piece that is handed on -/
structure PcR (S : Nat) (all : List Nat) (pre : List Pc) (x : Pc) (W : World) : Prop where
  i : x.i = pre.length
  lt : 64 * pre.length < all.length
  own : Own .u8 5 S W x.a x.n x.c (chunk all pre.length)

/-- the iterator's own memory: what is still to come -/
structure ChAt (nB bb bd : Nat) (a : Option Addr) (n c : Nat) (xs : List Nat) (W : World) : Prop where
  cn : W.cell? ⟨nB, 0, none⟩ = some (.int .i64 64)
  row : Row W bb 22 [.slice a n c]
  sl : Sl .u8 W a n c xs
  ne : ∀ p, a = some p → p.block = bd

theorem cell_lt {W : World} {b i : Nat} {v : Value} (h : W.cell? ⟨b, i, none⟩ = some v) : b < W.heap.size := World.block_lt_of_cell? _ _ h

theorem ChAt.keep {nB bb bd : Nat} {a : Option Addr} {n c : Nat} {xs : List Nat} {W W' : World} (h : ChAt nB bb bd a n c xs W) (hb : Below W.heap.size W W') : ChAt nB bb bd a n c xs W' :=
  ⟨(hb.cell (cell_lt h.cn)).trans h.cn, h.row.keep hb, h.sl.keep hb, h.ne⟩

/-- the box is laid anew -/
theorem ChAt.next {nB bb bd : Nat} {a a' : Option Addr} {n c n' c' : Nat} {xs ys : List Nat} {W : World} (h : ChAt nB bb bd a n c xs W) (hnb : nB ≠ bb) (hbd : bd ≠ bb) (hs : Sl .u8 W a' n' c' ys) (hne : ∀ p, a' = some p → p.block = bd) :
    ChAt nB bb bd a' n' c' ys (W.setCell ⟨bb, 0, none⟩ (.slice a' n' c')) := by
  have hg : W.grownBy (W.setCell ⟨bb, 0, none⟩ (.slice a' n' c')) (some bb) := grown_set (grown_refl _ _) 0 _
  refine ⟨?_, h.row.set0 _, hs.grown hg (fun p e => by rw [hne p e]; exact hbd), hne⟩
  rw [World.cell?_of_block (hg.block nB (cell_lt h.cn) (by simpa using hnb))]
  exact h.cn

theorem Sl.dropped {k : IntKind} {w : World} {b o n c : Nat} {xs : List Nat} (h : Sl k w (some ⟨b, o, none⟩) n c xs) (m : Nat) (hm : m ≤ n) : Sl k w (some ⟨b, o + m, none⟩) (n - m) (c - m) (xs.drop m) := by
  have hl := h.len
  have hle := h.le
  have hcap := h.cap
  refine ⟨by rw [List.length_drop]; omega, by omega, by omega, fun e => by simp at e, fun p e _ => by simp at e; subst e; rfl, fun i hi => ?_⟩
  rw [List.length_drop] at hi
  obtain ⟨b', o', e, hc⟩ := h.rd (m + i) (by omega)
  obtain ⟨rfl, rfl⟩ : b = b' ∧ o = o' := by simpa using e
  refine ⟨b, o + m, rfl, ?_⟩
  rw [Nat.add_assoc, hc, List.getElem_drop]

theorem Sl.none_at (k : IntKind) (w : World) (b o : Nat) : Sl k w (some ⟨b, o, none⟩) 0 0 [] :=
  ⟨rfl, Nat.le_refl _, by omega, fun e => by simp at e, fun p e _ => by simp at e; subst e; rfl, fun i hi => by simp at hi⟩

set_option maxRecDepth 100000 in
set_option maxHeartbeats 1000000 in
theorem chunk_in (l nB bb bd S : Nat) (all : List Nat) (Kp : World → World → Prop) (hKp : ∀ A C a n c xs, Kp A C → ChAt nB bb bd a n c xs A → ChAt nB bb bd a n c xs C) (J Jx : List Pc → World → Prop) (hal : all.length ≤ 70368744177664) (hnb : nB ≠ bb) (hbd : bd ≠ bb)
    (hJn : ∀ s X Y, J s X → X.grownBy Y none → J s Y) (hJb : ∀ s X Y, J s X → X.grownBy Y (some bb) → J s Y)
    (hY : ∀ pre x W, J pre W → PcR S all pre x W → YieldAt Fence.wide 2 Tryd.prog l (pcEnc x) W fun e W' =>
      (e = .returned (.bool true) ∧ J (pre ++ [x]) W' ∧ Kp W W') ∨ (e = .returned (.bool false) ∧ Jx (pre ++ [x]) W'))
    (hKs : ∀ A C, Kp A C → A.heap.size ≤ C.heap.size) (W : World) (a0 : Option Addr) (n0 c0 : Nat) (hW : ChAt nB bb bd a0 n0 c0 all W) (hS : S ≤ W.heap.size) (h0 : J [] W) :
    CallsIn Fence.wide 3 Tryd.prog 89 #[.func (.yield l) #[] #[], .pointer (some ⟨nB, 0, none⟩), .pointer (some ⟨bb, 0, none⟩)] W fun e W' => (∃ v, e = .returned v) ∧
      ((∃ ys, all.length ≤ 64 * ys.length ∧ J ys W') ∨ (∃ pre, True ∧ Jx pre W')) := by
  refine callsIn_of_wp Tryd.func89 rfl trivial ?_ rfl
  simp only [Tryd.ntmps89, List.size_toArray, List.length_cons, List.length_nil, Nat.reduceAdd, Nat.reduceSub, Array.replicate_succ, Array.replicate_zero, List.push_toArray, List.append_toArray, List.nil_append, List.cons_append]
  have hcn := hW.cn
  gi_wp2
  gi_loopw [4] (fun iv wr => ∃ (j : Nat) (pre : List Pc) (a : Option Addr) (n c : Nat), iv = .int .i64 j ∧ Hid (pre.length = j) ∧ j ≤ all.length ∧ J pre wr ∧ ChAt nB bb bd a n c (all.drop (64 * j)) wr ∧ S ≤ wr.heap.size) (fun iv _ => all.length - 64 * (intOf iv).toNat)
  case atStart => exact ⟨0, [], a0, n0, c0, rfl, rfl, by omega, h0, hW, hS⟩
  case round =>
    clear hcn hS h0 hW
    obtain ⟨j, pre, a, n, c, rfl, hpl, hj, hJ, hW, hS⟩ := hrel
    have hrow := hW.row
    have hsl := hW.sl
    have hcn := hW.cn
    have hcb : wr.cell? ⟨bb, 0, none⟩ = some (.slice a n c) := hrow.cell0
    have hfb := hrow.frozen0
    have hlen := mkHid hsl.len
    have hdl : Hid (n = all.length - 64 * j) := by show _ = _; rw [← hlen.out, List.length_drop]
    by_cases h0 : 0 < n
    · have hn64 : 0 < all.length - 64 * j := by rw [← hdl.out]; exact h0
      have hnle : n ≤ 70368744177664 := by have := hdl.out; omega
      have t1 : decide ((n : Int) > 0) = true := decide_eq_true (by omega)
      obtain ⟨ba, oa, rfl⟩ := hsl.addr h0
      by_cases h64 : 64 ≤ n
      · have hc64 : 64 ≤ c := Nat.le_trans h64 hsl.le
        have i64 : (64 : Int) ≤ (n : Int) := by omega
        have ic64 : (64 : Int) ≤ (c : Int) := by omega
        have htk := hsl.take 64 h64
        gi_wp2_with (refine ⟨trivial, ?_⟩; gi_at_call 77; refine (callsIn_wide.2 (clone_any htk (by omega) (by simp))).mono ?_; rintro e w1 ⟨a', c', rfl, ho, hb⟩; obtain ⟨fn, tmps, assign, body, hy, hR⟩ := hY pre ⟨j, a', 64, c'⟩ w1 (hJn _ _ _ hJ (below_grown hb none)) ⟨hpl.out.symm, by rw [hpl.out]; have := hdl.out; omega, by rw [hpl.out]; exact ho.mono hS⟩; dsimp only [pcEnc] at hy)
        refine hR.mono ?_
        rintro e W3 (⟨rfl, hJ3, hk3⟩ | ⟨rfl, hJx3⟩)
        · have hW3 := hKp _ _ _ _ _ _ hk3 (hW.keep hb)
          have hS3 : S ≤ W3.heap.size := Nat.le_trans hS (Nat.le_trans hb.size (hKs _ _ hk3))
          have hcb3 : W3.cell? ⟨bb, 0, none⟩ = some (.slice (some ⟨ba, oa, none⟩) n c) := hW3.row.cell0
          have hfb3 := hW3.row.frozen0
          have hjw : wrap64 ((j : Int) + 1) = ((j + 1 : Nat) : Int) := by rw [IntWalk.wrap64_in _ (by omega)]; omega
          clear hcb hfb hcn
          by_cases hc : c = 64
          · subst hc
            gi_wp2
            go_roundw
            case rel =>
              obtain rfl : n = 64 := by have := hsl.le; omega
              refine ⟨j + 1, _, _, 64 - 64, 0, by go_num, ?_, by have := hdl.out; omega, hJb _ _ _ hJ3 (grown_set (grown_refl _ _) 0 _), hW3.next hnb hbd ?_ hW3.ne, by rw [World.size_setCell]; exact hS3⟩
              · show _ = _
                rw [List.length_append, hpl.out]; rfl
              · have : all.drop (64 * (j + 1)) = [] := List.drop_eq_nil_of_le (by have := hdl.out; omega)
                rw [this]
                exact Sl.none_at _ _ _ _
            case measure => have := hdl.out; simp [intOf]; omega
          · gi_wp2
            go_roundw
            case rel =>
              refine ⟨j + 1, _, _, n - 64, c - 64, by go_num, ?_, by have := hdl.out; omega, hJb _ _ _ hJ3 (grown_set (grown_refl _ _) 0 _), hW3.next hnb hbd ?_ ?_, by rw [World.size_setCell]; exact hS3⟩
              · show _ = _
                rw [List.length_append, hpl.out]; rfl
              · have := hW3.sl.dropped 64 h64
                rw [List.drop_drop] at this
                rwa [show 64 * (j + 1) = 64 * j + 64 by omega]
              · intro p e
                have := hW3.ne _ rfl
                simp at e
                subst e
                exact this
            case measure => have := hdl.out; simp [intOf]; omega
        · gi_wp2
          refine bodyPost_ret (results_none rfl _ _ _) rfl ?_
          exact ⟨⟨_, rfl⟩, .inr ⟨_, trivial, hJx3⟩⟩
      · have i64 : ¬ (64 : Int) ≤ (n : Int) := by omega
        have ich : (n : Int) ≤ (c : Int) := by have := hsl.le; omega
        have hch : chunk all j = all.drop (64 * j) := List.take_of_length_le (by rw [hlen.out]; omega)
        gi_wp2_with (refine ⟨trivial, ?_⟩; gi_at_call 77; refine (callsIn_wide.2 (clone_any hsl (by omega) (by simp))).mono ?_; rintro e w1 ⟨a', c', rfl, ho, hb⟩; obtain ⟨fn, tmps, assign, body, hy, hR⟩ := hY pre ⟨j, a', n, c'⟩ w1 (hJn _ _ _ hJ (below_grown hb none)) ⟨hpl.out.symm, by rw [hpl.out]; have := hdl.out; omega, by rw [hpl.out, hch]; exact ho.mono hS⟩; dsimp only [pcEnc] at hy)
        refine hR.mono ?_
        rintro e W3 (⟨rfl, hJ3, hk3⟩ | ⟨rfl, hJx3⟩)
        · have hW3 := hKp _ _ _ _ _ _ hk3 (hW.keep hb)
          have hS3 : S ≤ W3.heap.size := Nat.le_trans hS (Nat.le_trans hb.size (hKs _ _ hk3))
          have hcb3 : W3.cell? ⟨bb, 0, none⟩ = some (.slice (some ⟨ba, oa, none⟩) n c) := hW3.row.cell0
          have hfb3 := hW3.row.frozen0
          have hjw : wrap64 ((j : Int) + 1) = ((j + 1 : Nat) : Int) := by rw [IntWalk.wrap64_in _ (by omega)]; omega
          clear hcb hfb hcn
          by_cases hc : c = n
          · subst hc
            gi_wp2
            go_roundw
            case rel =>
              refine ⟨j + 1, _, _, 0, 0, by go_num, ?_, by have := hdl.out; omega, hJb _ _ _ hJ3 (grown_set (grown_refl _ _) 0 _), hW3.next hnb hbd ?_ hW3.ne, by rw [World.size_setCell]; exact hS3⟩
              · show _ = _
                rw [List.length_append, hpl.out]; rfl
              · have : all.drop (64 * (j + 1)) = [] := List.drop_eq_nil_of_le (by have := hdl.out; omega)
                rw [this]
                exact Sl.none_at _ _ _ _
            case measure => have := hdl.out; simp [intOf]; omega
          · gi_wp2
            go_roundw
            case rel =>
              refine ⟨j + 1, _, _, 0, c - n, by go_num, ?_, by have := hdl.out; omega, hJb _ _ _ hJ3 (grown_set (grown_refl _ _) 0 _), hW3.next hnb hbd ?_ ?_, by rw [World.size_setCell]; exact hS3⟩
              · show _ = _
                rw [List.length_append, hpl.out]; rfl
              · have := hW3.sl.dropped n (Nat.le_refl _)
                rw [List.drop_drop] at this
                have e1 : all.drop (64 * (j + 1)) = [] := List.drop_eq_nil_of_le (by have := hdl.out; omega)
                have e2 : all.drop (64 * j + n) = [] := List.drop_eq_nil_of_le (by have := hdl.out; omega)
                rw [e1]
                rwa [e2, Nat.sub_self] at this
              · intro p e
                have := hW3.ne _ rfl
                simp at e
                subst e
                exact this
            case measure => have := hdl.out; simp [intOf]; omega
        · gi_wp2
          refine bodyPost_ret (results_none rfl _ _ _) rfl ?_
          exact ⟨⟨_, rfl⟩, .inr ⟨_, trivial, hJx3⟩⟩
    · have t1 : decide ((n : Int) > 0) = false := decide_eq_false (by omega)
      obtain rfl : n = 0 := by omega
      gi_wp2
      go_end0
      exact ⟨⟨_, rfl⟩, .inl ⟨pre, by have := hdl.out; have := hpl.out; omega, hJ⟩⟩

end Go.Proofs.YtaeamlldocbeeaaDoor
