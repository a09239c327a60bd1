/- hashes: Copy, zbyte. -/
import Derived.Test.YtaeamlldocbeeaaDoorHashE
namespace Go.Proofs.YtaeamlldocbeeaaDoor
open Go.RowKit Go.Shelf Num

theorem newObj (w : World) (T : TypeId) (vs : Array Value) : ∃ W b, W = w.alloc (Obj.cells vs T) ∧ b = w.heap.size ∧ Row W b T vs.toList ∧ Below w.heap.size w W ∧ W.heap.size = b + 1 :=
  ⟨_, _, rfl, rfl, heap_alloc_new _ _, below_alloc _ (Nat.le_refl _), World.size_alloc _ _⟩

/-- a copy of a hash, in memory of its own -/
def GivesCopy (w : World) (H xs : List Nat) (n : Nat) (e : Ending) (w' : World) : Prop :=
  ∃ hb a n' c, e = .returned (.pointer (some ⟨hb, 0, none⟩)) ∧ HSt w' hb H xs n a n' c ∧ w.heap.size ≤ hb ∧ (∀ p, a = some p → w.heap.size ≤ p.block) ∧ Below w.heap.size w w'

set_option maxRecDepth 100000 in
set_option maxHeartbeats 2000000 in
theorem copy_any {hb n nw cw : Nat} {a : Option Addr} {H xs : List Nat} {w : World} (h : HSt w hb H xs n a nw cw) (hk : KTab w) (hx : nw ≤ 70368744177664) :
    Calls Tryd.prog 69 #[.pointer (some ⟨hb, 0, none⟩)] w (GivesCopy w H xs n) := by
  obtain ⟨row, own, hH, hHd, hxd⟩ := h
  obtain ⟨h0, h1, h2, h3, h4, h5, h6, h7, rfl⟩ := list8 hH
  have row1 : Row w hb 112 [.int .i64 3, .int .u64 (h0 : Int), .int .u64 (h1 : Int), .int .u64 (h2 : Int), .int .u64 (h3 : Int), .int .u64 (h4 : Int), .int .u64 (h5 : Int), .int .u64 (h6 : Int), .int .u64 (h7 : Int), .slice a nw cw, .int .u64 (n : Int)] := row
  have c0 : w.cell? ⟨hb, 0, none⟩ = some (.int .i64 3) := row1.cell 0
  have c1 : w.cell? ⟨hb, 1, none⟩ = some (.int .u64 (h0 : Int)) := row1.cell 1
  have c2 : w.cell? ⟨hb, 2, none⟩ = some (.int .u64 (h1 : Int)) := row1.cell 2
  have c3 : w.cell? ⟨hb, 3, none⟩ = some (.int .u64 (h2 : Int)) := row1.cell 3
  have c4 : w.cell? ⟨hb, 4, none⟩ = some (.int .u64 (h3 : Int)) := row1.cell 4
  have c5 : w.cell? ⟨hb, 5, none⟩ = some (.int .u64 (h4 : Int)) := row1.cell 5
  have c6 : w.cell? ⟨hb, 6, none⟩ = some (.int .u64 (h5 : Int)) := row1.cell 6
  have c7 : w.cell? ⟨hb, 7, none⟩ = some (.int .u64 (h6 : Int)) := row1.cell 7
  have c8 : w.cell? ⟨hb, 8, none⟩ = some (.int .u64 (h7 : Int)) := row1.cell 8
  have c9 : w.cell? ⟨hb, 9, none⟩ = some (.slice a nw cw) := row1.cell 9
  have c10 : w.cell? ⟨hb, 10, none⟩ = some (.int .u64 (n : Int)) := row1.cell 10
  go_enter Tryd.func69, Tryd.ntmps69
  go_upto_region 4 with (fail)
  obtain ⟨W1, nb, hW1, hnb, rnb, l1, z1⟩ := newObj w 112 #[.int .i64 3, .int .u64 (h0 : Int), .int .u64 (h1 : Int), .int .u64 (h2 : Int), .int .u64 (h3 : Int), .int .u64 (h4 : Int), .int .u64 (h5 : Int), .int .u64 (h6 : Int), .int .u64 (h7 : Int), .slice a nw cw, .int .u64 (n : Int)]
  rw [← hW1, ← hnb]
  have hnbB : w.heap.size ≤ nb := by omega
  have hltb : hb < w.heap.size := row1.lt
  have c91 : W1.cell? ⟨hb, 9, none⟩ = some (.slice a nw cw) := (row1.keep l1).cell 9
  have own1 := own.keep l1
  have hk1 := hk.keep l1
  clear hW1 hnb c0 c1 c2 c3 c4 c5 c6 c7 c8 c9 c10
  rcases own1.row with ⟨rfl, rfl, rfl⟩ | ⟨bo, zs, rfl, hB4, hzl, hcl, hro⟩
  · have n9 : W1.cell? ⟨nb, 9, none⟩ = some (.slice none 0 0) := rnb.cell 9
    have fn := rnb.frozen
    go_wp2_with (go_at_call 77; (with_reducible refine (clone_nil).mono ?_); rintro e w' ⟨rfl, rfl⟩)
    go_ret
    refine ⟨_, _, _, _, rfl, ⟨rnb.set 9 (.slice none 0 0), own1.kept' (grown_set (grown_refl _ _) 9 _) (fun p e => by cases e), rfl, hHd, hxd⟩, hnbB, (fun p e => by cases e), l1.setCell (p := ⟨nb, 9, none⟩) hnbB _⟩
  · go_wp2_with (go_at_call 77; (with_reducible refine (clone_any own1.sl hx (by simp)).mono ?_); rintro e W2 ⟨a', c', rfl, ho, hb2⟩; have rn2 := rnb.keep hb2; have n9 : W2.cell? ⟨nb, 9, none⟩ = some (.slice (some ⟨bo, 0, none⟩) nw cw) := rn2.cell 9; have fn := rn2.frozen)
    go_ret
    have hne := ho.ne_row rn2 (by decide)
    refine ⟨_, _, _, _, rfl, ⟨rn2.set 9 (.slice a' nw c'), (ho.mono hk1.lt).kept' (grown_set (grown_refl _ _) 9 _) hne, rfl, hHd, hxd⟩, hnbB, ?_, (l1.trans (hb2.mono l1.size)).setCell (p := ⟨nb, 9, none⟩) hnbB _⟩
    intro p e
    rcases ho.row with ⟨e', _⟩ | ⟨b', ys, e', hB, _⟩
    · rw [e'] at e; cases e
    · rw [e'] at e; cases e; exact Nat.le_trans l1.size hB

end Go.Proofs.YtaeamlldocbeeaaDoor
