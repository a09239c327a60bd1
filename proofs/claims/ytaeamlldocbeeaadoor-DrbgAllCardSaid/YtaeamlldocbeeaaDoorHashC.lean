/- SHA-256 in the program: Size, Block, start, New, take. -/
import Derived.Test.YtaeamlldocbeeaaDoorHashB
namespace Go.Proofs.YtaeamlldocbeeaaDoor
open Go.RowKit Go.Shelf Num

/-- the first state -/
def H256 : List Nat := [1779033703, 3144134277, 1013904242, 2773480762, 1359893119, 2600822924, 528734635, 1541459225]

theorem hsize_any (w : World) : Calls Tryd.prog 53 #[.int .i64 3] w (RetN .i64 w 32) := by
  go_enter Tryd.func53, Tryd.ntmps53
  go_wp2
  go_ret
  exact ⟨rfl, rfl⟩

theorem hblock_any (w : World) : Calls Tryd.prog 65 #[.int .i64 3] w (RetN .i64 w 64) := by
  go_enter Tryd.func65, Tryd.ntmps65
  go_wp2
  go_ret
  exact ⟨rfl, rfl⟩

set_option maxHeartbeats 1000000 in
theorem take_any {hb : Nat} {ap : Option Addr} {cp : Nat} {B H : List Nat} {w : World} {wait : Value} {n : Nat} (h : Sl .u8 w ap 64 cp B) (hd : Dg 256 B) (hh : sha256_hash hb w 3 H wait n) (hH : H.length = 8) (hHd : Dg 4294967296 H) (hk : KTab w) :
    Calls Tryd.prog 76 #[.pointer (some ⟨hb, 0, none⟩), .slice ap 64 cp] w (GivesHash w hb 3 (compress H B) wait n) := by
  have c0 : w.cell? ⟨hb, 0, none⟩ = some (.int .i64 3) := Row.cell hh 0
  have hs := mkHid (psha_any h hd hh hH hHd hk)
  clear hh h
  go_enter Tryd.func76, Tryd.ntmps76
  go_wp2_with (go_at_call 91; (with_reducible refine hs.out.mono ?_); rintro e w' ⟨⟨v, rfl⟩, hh', hg⟩)
  go_end0
  exact ⟨⟨_, rfl⟩, hh', hg⟩

def ONE : List Nat := [7640891576956012808, 13503953896175478587, 4354685564936845355, 11912009170470909681, 5840696475078001361, 11170449401992604703, 2270897969802886507, 6620516959819538809]
def TWO : List Nat := [14680500436340154072, 7105036623409894663, 10473403895298186519, 1526699215303891257, 7436329637833083697, 10282925794625328401, 15784041429090275239, 5167115440072839076]
def half (i : Nat) : List Nat := H256.take i ++ ONE.drop i

theorem half_get : ∀ i, i < 8 → (half i).getD i 0 / 4294967296 = H256.getD i 0 := by decide
theorem half_set (i : Nat) (hi : i < 8) : (half i).set i (H256.getD i 0) = half (i + 1) := by
  match i, hi with
  | 0, _ | 1, _ | 2, _ | 3, _ | 4, _ | 5, _ | 6, _ | 7, _ => rfl
theorem half_len : ∀ i, i ≤ 8 → (half i).length = 8 := by decide
theorem under_a64 : Tryd.prog.underlying 109 = some (.array 8 47) := by kernel_rfl
theorem size_a64 : (Tryd.prog.info? 109).map (·.size) = some 8 := by kernel_rfl

set_option maxRecDepth 100000 in
set_option maxHeartbeats 4000000 in
theorem start_any (w : World) : Calls Tryd.prog 74 #[.int .i64 3] w fun e w' => e = .returned (.agg #[.int .u64 1779033703, .int .u64 3144134277, .int .u64 1013904242, .int .u64 2773480762, .int .u64 1359893119, .int .u64 2600822924, .int .u64 528734635, .int .u64 1541459225]) ∧ Below w.heap.size w w' := by
  go_enter Tryd.func74, Tryd.ntmps74
  go_upto_region 14 with (fail)
  obtain ⟨w1, b2, hw1, hb2, hz, hbe1, hs1⟩ := newNums w .u64 109 (List.replicate 8 0)
  obtain ⟨w2, b3, hw2, hb3, hone, hbe2, hs2⟩ := newNums w1 .u64 109 ONE
  obtain ⟨w3, b4, hw3, hb4, _, hbe3, hs3⟩ := newNums w2 .u64 109 TWO
  refine (?_ : Code.wp _ _ _ _ (((w.alloc (Obj.cells (U .u64 (List.replicate 8 0)).toArray 109)).alloc (Obj.cells (U .u64 ONE).toArray 109)).alloc (Obj.cells (U .u64 TWO).toArray 109)))
  rw [← hw1, ← hw2, ← hw3, ← hb2]
  obtain rfl : b3 = b2 + 1 := by omega
  obtain rfl : b4 = b2 + 1 + 1 := by omega
  have hbel := (hbe1.trans ((hbe2.trans (hbe3.mono hbe2.size)).mono hbe1.size))
  have hone3 := hone.keep hbe3
  have hz3 := (hz.keep hbe2).keep hbe3
  have hB : w.heap.size ≤ b2 := by omega
  clear hw1 hw2 hw3 hb2 hb3 hb4 hbe1 hbe2 hbe3 hs1 hs2 hs3 hone hz
  go_wp2
  go_loopw [27] (fun iv wr => ∃ i : Nat, i ≤ 8 ∧ iv = .int .i64 i ∧ Blk wr (b2 + 1) .u64 109 (half i) ∧ Blk wr b2 .u64 109 (List.replicate 8 0) ∧ Below w.heap.size w wr) (fun iv _ => 8 - (intOf iv).toNat)
  case atStart => exact ⟨0, by omega, rfl, hone3, hz3, hbel⟩
  case round =>
    clear hone3 hz3 hbel
    obtain ⟨i, hi, rfl, ho, hz, hbel⟩ := hrel
    by_cases hlt : i < 8
    · obtain ⟨x, hcx, hfx, hx⟩ := ho.get i (by rw [half_len i hi]; exact hlt)
      have hx2 : x / 4294967296 = H256.getD i 0 := by
        obtain ⟨h1, e1⟩ := hx.out
        have := half_get i hlt
        rw [← e1]
        simpa [List.getD, h1] using this
      obtain ⟨y, hy⟩ : ∃ y, y = x / 4294967296 := ⟨_, rfl⟩
      have ey : (x : Int) / 4294967296 = (y : Int) := by rw [hy]; rfl
      have HY : Hid (y = H256.getD i 0) := by show _ = _; rw [hy, hx2]
      have i8 : (i : Int) < 8 := by omega
      clear hx2 hy
      go_wp2
      go_roundw
      case rel =>
        refine ⟨i + 1, by omega, by go_num, ?_, hz.other (p := ⟨b2 + 1, i, none⟩) (by simp) _, hbel.setCell (p := ⟨b2 + 1, i, none⟩) (by show _ ≤ b2 + 1; omega) _⟩
        have := ho.set i y
        rw [show (half i).set i y = half (i + 1) by rw [HY.out]; exact half_set i hlt] at this
        exact this
      case measure => simp [intOf]; omega
    · obtain rfl : i = 8 := by omega
      have h8 : wr.heap[b2 + 1]? = some (.cells #[.int .u64 1779033703, .int .u64 3144134277, .int .u64 1013904242, .int .u64 2773480762, .int .u64 1359893119, .int .u64 2600822924, .int .u64 528734635, .int .u64 1541459225] 109 (0, 0)) := ho
      have hfz := hz.frozen
      have c0 : wr.cell? ⟨b2, 0, none⟩ = some (.int .u64 0) := hz.cell 0 (by simp)
      have c1 : wr.cell? ⟨b2, 1, none⟩ = some (.int .u64 0) := hz.cell 1 (by simp)
      have c2 : wr.cell? ⟨b2, 2, none⟩ = some (.int .u64 0) := hz.cell 2 (by simp)
      have c3 : wr.cell? ⟨b2, 3, none⟩ = some (.int .u64 0) := hz.cell 3 (by simp)
      have c4 : wr.cell? ⟨b2, 4, none⟩ = some (.int .u64 0) := hz.cell 4 (by simp)
      have c5 : wr.cell? ⟨b2, 5, none⟩ = some (.int .u64 0) := hz.cell 5 (by simp)
      have c6 : wr.cell? ⟨b2, 6, none⟩ = some (.int .u64 0) := hz.cell 6 (by simp)
      have c7 : wr.cell? ⟨b2, 7, none⟩ = some (.int .u64 0) := hz.cell 7 (by simp)
      go_wp2_with (refine wpList_load_row rfl 109 (.tmp 3) rfl (b2 + 1) rfl 109 _ (0, 0) _ h8 under_a64 rfl (by rw [size_a64]; rfl) ?_)
      have hend := ((((((((hz.set 0 1779033703).set 1 3144134277).set 2 1013904242).set 3 2773480762).set 4 1359893119).set 5 2600822924).set 6 528734635).set 7 1541459225)
      refine bodyPost_ret (results_cell_row (P := Tryd.prog) rfl _ _ b2 109 (U .u64 H256).toArray (0, 0) _ rfl hend under_a64 rfl (by rw [size_a64]; rfl)) rfl ?_
      exact ⟨rfl, ((((((((hbel.setCell (p := ⟨b2, 0, none⟩) hB _).setCell (p := ⟨b2, 1, none⟩) hB _).setCell (p := ⟨b2, 2, none⟩) hB _).setCell (p := ⟨b2, 3, none⟩) hB _).setCell (p := ⟨b2, 4, none⟩) hB _).setCell (p := ⟨b2, 5, none⟩) hB _).setCell (p := ⟨b2, 6, none⟩) hB _).setCell (p := ⟨b2, 7, none⟩) hB _)⟩

theorem nil_sl (k : IntKind) (w : World) : Sl k w none 0 0 [] := Sl.nilSl _ _

set_option maxHeartbeats 1000000 in
theorem hnew_any (w : World) : Calls Tryd.prog 67 #[.int .i64 3] w fun e w' => ∃ hb, e = .returned (.pointer (some ⟨hb, 0, none⟩)) ∧ sha256_hash hb w' 3 H256 (.slice none 0 0) 0 ∧ w.heap.size ≤ hb ∧ Below w.heap.size w w' := by
  go_enter Tryd.func67, Tryd.ntmps67
  go_wp2_with (first
    | (go_at_call 53; (with_reducible refine (hsize_any _).mono ?_); rintro e w1 ⟨rfl, rfl⟩)
    | (go_at_call 74; (with_reducible refine (start_any _).mono ?_); rintro e w2 ⟨rfl, hb⟩))
  go_ret
  exact ⟨_, rfl, heap_alloc_new _ _, hb.size, hb.alloc hb.size _⟩

end Go.Proofs.YtaeamlldocbeeaaDoor
