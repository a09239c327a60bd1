/- hashes: newKeyed, of, HMAC. -/
import Derived.Test.YtaeamlldocbeeaaDoorHashP
import Derived.Deep.RegionHeld3
namespace Go.Proofs.YtaeamlldocbeeaaDoor
open Go.RowKit Go.Shelf Num

def xor8 (a b : Nat) : Nat := (bits .xor .u8 (a : Int) (b : Int)).toNat

theorem xor8_eq (a b : Nat) : bits .xor .u8 (a : Int) (b : Int) = ((xor8 a b : Nat) : Int) := by
  have : bits .xor .u8 (a : Int) (b : Int) = IntKind.u8.wrap ((BitVec.ofInt 8 (a : Int) ^^^ BitVec.ofInt 8 (b : Int)).toNat : Int) := rfl
  unfold xor8
  rw [this, wrap_u8]
  omega

theorem xor8_54 (a : Nat) : bits .xor .u8 (a : Int) 54 = ((xor8 a 54 : Nat) : Int) := xor8_eq a 54
theorem xor8_92 (a : Nat) : bits .xor .u8 (a : Int) 92 = ((xor8 a 92 : Nat) : Int) := xor8_eq a 92

theorem xor8_lt (a b : Nat) : xor8 a b < 256 := by
  have : bits .xor .u8 (a : Int) (b : Int) = IntKind.u8.wrap ((BitVec.ofInt 8 (a : Int) ^^^ BitVec.ofInt 8 (b : Int)).toNat : Int) := rfl
  unfold xor8
  rw [this, wrap_u8]
  omega

/-- i bytes have been turned -/
def xorTo (k : Nat) (X : List Nat) (i : Nat) : List Nat := (X.take i).map (xor8 · k) ++ X.drop i

theorem xorTo_len (k : Nat) (X : List Nat) (i : Nat) : (xorTo k X i).length = X.length := by
  unfold xorTo
  rw [List.length_append, List.length_map, List.length_take, List.length_drop]
  omega

theorem xorTo_get (k : Nat) (X : List Nat) (i : Nat) (hi : i < X.length) : (xorTo k X i).getD i 0 = X.getD i 0 := by
  have hl : ((X.take i).map (xor8 · k)).length = i := by rw [List.length_map, List.length_take]; omega
  unfold xorTo
  rw [List.getD, List.getElem?_append_right (by omega), hl, Nat.sub_self, List.getElem?_drop, Nat.add_zero]
  rfl

theorem xorTo_set (k : Nat) (X : List Nat) (i : Nat) (hi : i < X.length) : (xorTo k X i).set i (xor8 (X.getD i 0) k) = xorTo k X (i + 1) := by
  have hl : ((X.take i).map (xor8 · k)).length = i := by rw [List.length_map, List.length_take]; omega
  unfold xorTo
  rw [List.set_append_right _ _ (by omega), hl, Nat.sub_self, List.drop_eq_getElem_cons hi, List.set_cons_zero, List.take_succ_eq_append_getElem hi, List.map_append, List.append_assoc]
  simp [List.getD, hi]

theorem Blk.at {w : World} {b : Nat} {k : IntKind} {T : TypeId} {xs : List Nat} (h : Blk w b k T xs) (i : Nat) (hi : i < xs.length) : w.cell? ⟨b, i, none⟩ = some (.int k ((xs.getD i 0 : Nat) : Int)) := by
  rw [h.cell i hi]
  simp [List.getD, hi]

theorem run_mkn (n : Nat) (W : World) (hn : n ≤ 1000) : (Instr.makeSlice 22 (.int .i64 (n : Int)) (.int .i64 (n : Int))).run Tryd.prog W = .ok (.slice (some ⟨W.heap.size, 0, none⟩) n n) (W.alloc (Obj.cells (U .u8 (List.replicate n 0)).toArray 5)) := by
  obtain ⟨i, hi, hz, hs, hb⟩ := info_parts info_u8
  have hrun := run_make (P := Tryd.prog) W 22 5 i (.int .u8 0) under_bytes hi hz .i64 .i64 (n : Int) (n : Int) (by omega) (by omega) (by rw [hb]; omega) (by omega)
  have e : madeCells (Value.int .u8 0).cells n = (U .u8 (List.replicate n 0)).toArray := by
    apply Array.toList_inj.1
    rw [show (Value.int .u8 0).cells = #[Value.int .u8 0] from rfl, toList_madeCells_one]
    simp [U]
  simp only [Int.toNat_natCast, hs, Nat.mul_one, e] at hrun
  exact hrun

/-- 64 noughts -/
def Z64 : List Nat := List.replicate 64 0

theorem run_mk64 (W : World) : (Instr.makeSlice 22 (.int .i64 64) (.int .i64 64)).run Tryd.prog W = .ok (.slice (some ⟨W.heap.size, 0, none⟩) 64 64) (W.alloc (Obj.cells (U .u8 Z64).toArray 5)) :=
  run_mkn 64 W (by omega)

/-- a key filled up to a block, and turned -/
def keyX (k : Nat) (ks : List Nat) : List Nat := (ks ++ Z64.drop ks.length).map (xor8 · k)

theorem keyX_dg (k : Nat) (ks : List Nat) : Dg 256 (keyX k ks) := by
  intro x hx
  unfold keyX at hx
  obtain ⟨y, _, rfl⟩ := List.mem_map.1 hx
  exact xor8_lt _ _

theorem keyX_len (k : Nat) {ks : List Nat} (h : ks.length ≤ 64) : (keyX k ks).length = 64 := by
  unfold keyX Z64
  rw [List.length_map, List.length_append, List.length_drop, List.length_replicate]
  omega

theorem size_keyed : (Tryd.prog.info? 90).map (·.size) = some 2 := by kernel_rfl

theorem under_keyed : ∃ fs, Tryd.prog.underlying 90 = some (.struct fs) := by
  have h : (match Tryd.prog.underlying 90 with | some (.struct _) => true | _ => false) = true := by kernel_rfl
  split at h
  case h_1 fs e => exact ⟨fs, e⟩
  case h_2 => cases h

/-- a key's two states -/
def GivesKeyed (w : World) (ks : List Nat) (e : Ending) (w' : World) : Prop :=
  ∃ p1 p2 a1 n1 c1 a2 n2 c2, e = .returned (.agg #[.pointer (some ⟨p1, 0, none⟩), .pointer (some ⟨p2, 0, none⟩)]) ∧ HA w' p1 (keyX 54 ks) a1 n1 c1 ∧ HA w' p2 (keyX 92 ks) a2 n2 c2 ∧ Below w.heap.size w w'

attribute [local go_sem] xor8_54 xor8_92

set_option maxRecDepth 100000 in
set_option maxHeartbeats 4000000 in
theorem keyed_any {a : Option Addr} {n c : Nat} {ks : List Nat} {w : World} (h : Sl .u8 w a n c ks) (hd : Dg 256 ks) (hn : n ≤ 64) (hk : KTab w) :
    Calls Tryd.prog 54 #[.int .i64 3, .slice a n c] w (GivesKeyed w ks) := by
  have t1 : decide ((n : Int) > 64) = false := decide_eq_false (by omega)
  go_enter Tryd.func54, Tryd.ntmps54
  go_upto_region 3 with (go_at_call 65; (with_reducible refine (hblock_any _).mono ?_); rintro e w' ⟨rfl, rfl⟩)
  obtain ⟨W0, b4, hW0, hb4, r4, l4, z4⟩ := newObj w 90 #[Value.pointer none, Value.pointer none]
  rw [← hW0, ← hb4]
  have hbB : w.heap.size ≤ b4 := by omega
  clear hW0 hb4
  have hA0 : Blk (W0.alloc (Obj.cells (U .u8 Z64).toArray 5)) (b4 + 1) .u8 5 Z64 := by
    have := heap_alloc_new W0 (Obj.cells (U .u8 Z64).toArray 5)
    rw [z4] at this
    exact this
  have hB0 : Blk ((W0.alloc (Obj.cells (U .u8 Z64).toArray 5)).alloc (Obj.cells (U .u8 Z64).toArray 5)) (b4 + 1 + 1) .u8 5 Z64 := by
    have := heap_alloc_new (W0.alloc (Obj.cells (U .u8 Z64).toArray 5)) (Obj.cells (U .u8 Z64).toArray 5)
    rw [World.size_alloc, z4] at this
    exact this
  have hA := (hA0.alloc (Obj.cells (U .u8 Z64).toArray 5)).drew
  have hB := hB0.drew
  have hbl := ((below_alloc (Obj.cells (U .u8 Z64).toArray 5) (Nat.le_refl W0.heap.size)).alloc (below_alloc (Obj.cells (U .u8 Z64).toArray 5) (Nat.le_refl W0.heap.size)).size (Obj.cells (U .u8 Z64).toArray 5)).drew
  go_cut [5, 6] from 18 to 23 (fun q r wx => ∃ b1 b2, q = .slice (some ⟨b1, 0, none⟩) 64 64 ∧ r = .slice (some ⟨b2, 0, none⟩) 64 64 ∧ Blk wx b1 .u8 5 Z64 ∧ Blk wx b2 .u8 5 Z64 ∧ b1 ≠ b2 ∧ W0.heap.size ≤ b1 ∧ W0.heap.size ≤ b2 ∧ Below W0.heap.size W0 wx)
  case first =>
    have hmk := run_mk64
    refine wp_region_noPanic ?_
    go_region_with (go_at_call 65; (with_reducible refine (hblock_any _).mono ?_); rintro e wr ⟨rfl, rfl⟩)
    all_goals (
      refine NoPanic.normal ?_
      go_wp2
      go_meet
      case rel =>
        first
          | exact ⟨_, _, rfl, rfl, hA, hB, by omega, by omega, by omega, hbl⟩
          | exact ⟨_, _, rfl, rfl, hB, hA, by omega, by omega, by omega, hbl⟩)
  case rest =>
    obtain ⟨b1, b2, rfl, rfl, hZ1, hZ2, hne, hB1, hB2, hbl'⟩ := hcut
    have hl : Below w.heap.size w wc := l4.trans (hbl'.mono l4.size)
    have hwB1 : w.heap.size ≤ b1 := Nat.le_trans l4.size hB1
    have hwB2 : w.heap.size ≤ b2 := Nat.le_trans l4.size hB2
    obtain ⟨wa, hcp1, hY1, hg1⟩ := run_cpy (P := Tryd.prog) 22 22 3 5 under_bytes size_u8' b1 64 64 a n c .u8 _ ks hZ1 (h.keep hl) hn (by unfold Z64; rw [List.length_replicate]; exact hn)
    have hla : Below w.heap.size w wa := hl.trans (grown_below hg1 hwB1 hl.size)
    obtain ⟨wb, hcp2, hY2, hg2⟩ := run_cpy (P := Tryd.prog) 22 22 3 5 under_bytes size_u8' b2 64 64 a n c .u8 _ ks (hZ2.grown hg1 hne.symm) (h.keep hla) hn (by unfold Z64; rw [List.length_replicate]; exact hn)
    have hlb : Below w.heap.size w wb := hla.trans (grown_below hg2 hwB2 hla.size)
    have hY1b := hY1.grown hg2 hne
    have hb14 : b1 ≠ b4 := by omega
    have hb24 : b2 ≠ b4 := by omega
    have r4b := ((r4.keep hbl').grown hg1 hb14.symm).grown hg2 hb24.symm
    simp only [goInt] at hcp1 hcp2
    clear hA hB hbl hA0 hB0
    go_upto_region 7 with (fail)
    obtain ⟨X, hX⟩ : ∃ X, X = ks ++ Z64.drop n := ⟨_, rfl⟩
    rw [← hX] at hY1b hY2
    have hXl : X.length = 64 := by rw [hX, List.length_append, List.length_drop, h.len]; unfold Z64; rw [List.length_replicate]; omega
    have HX1 : Hid (X.map (xor8 · 54) = keyX 54 ks) := by show _ = _; rw [hX]; unfold keyX; rw [h.len]
    have HX2 : Hid (X.map (xor8 · 92) = keyX 92 ks) := by show _ = _; rw [hX]; unfold keyX; rw [h.len]
    clear hX hcp1 hcp2 hZ1 hZ2 hY1 hg1 hg2
    go_wp2
    go_loopw [32] (fun iv wr => ∃ i : Nat, i ≤ 64 ∧ iv = .int .i64 i ∧ Blk wr b1 .u8 5 (xorTo 54 X i) ∧ Blk wr b2 .u8 5 (xorTo 92 X i) ∧ Row wr b4 90 [Value.pointer none, Value.pointer none] ∧ Below w.heap.size w wr) (fun iv _ => 64 - (intOf iv).toNat)
    case atStart => exact ⟨0, by omega, rfl, hY1b, hY2, r4b, hlb⟩
    case round =>
      clear hY1b hY2 hlb r4b
      obtain ⟨i, hi, rfl, hq1, hq2, r4q, hlq⟩ := hrel
      by_cases hlt : i < 64
      · have d1 := hq1.at i (by rw [xorTo_len]; omega)
        have d2 := hq2.at i (by rw [xorTo_len]; omega)
        rw [xorTo_get _ _ _ (by omega)] at d1 d2
        have s1 := xorTo_set 54 X i (by omega)
        have s2 := xorTo_set 92 X i (by omega)
        have S1 := mkHid s1
        have S2 := mkHid s2
        clear s1 s2
        generalize X.getD i 0 = x at *
        have f1 := hq1.frozen i
        have f2 := hq2.frozen i
        have i64 : (i : Int) < 64 := by omega
        have hne2 : b2 ≠ b1 := Ne.symm hne
        go_wp2
        go_roundw
        case rel =>
          refine ⟨i + 1, by omega, by go_num, ?_, ?_, (r4q.set_other (b' := b1) hb14 i _).set_other (b' := b2) hb24 i _, (hlq.setCell (p := ⟨b1, i, none⟩) hwB1 _).setCell (p := ⟨b2, i, none⟩) hwB2 _⟩
          · have := (hq1.set i (xor8 x 54)).other (p := ⟨b2, i, none⟩) hne2 (.int .u8 ((xor8 x 92 : Nat) : Int))
            rw [S1.out] at this
            exact this
          · have := (hq2.other (p := ⟨b1, i, none⟩) hne (.int .u8 ((xor8 x 54 : Nat) : Int))).set i (xor8 x 92)
            rw [S2.out] at this
            exact this
        case measure => simp [intOf]; omega
      · obtain rfl : i = 64 := by omega
        have e1 : xorTo 54 X 64 = X.map (xor8 · 54) := by unfold xorTo; rw [List.take_of_length_le (by omega), List.drop_eq_nil_of_le (by omega), List.append_nil]
        have e2 : xorTo 92 X 64 = X.map (xor8 · 92) := by unfold xorTo; rw [List.take_of_length_le (by omega), List.drop_eq_nil_of_le (by omega), List.append_nil]
        rw [e1] at hq1
        rw [e2] at hq2
        have N1 := mkHid hnew_abs
        have N2 := mkHid hnew_abs
        clear e1 e2
        go_upto_region 13 with (first
          | (go_at_call 67; (with_reducible refine (N1.out _).mono ?_); rintro e w5 ⟨p1, rfl, hr5, q5, l5⟩; clear N1)
          | (go_at_call 67; (with_reducible refine (N2.out _).mono ?_); rintro e w6 ⟨p2, rfl, hr6, q6, l6⟩; clear N2))
        obtain ⟨w7, pb, hw7, hpb, r7, l7, z7⟩ := newObj w6 90 #[Value.pointer (some { block := p1, off := 0 }), Value.pointer (some { block := p2, off := 0 })]
        rw [← hw7, ← hpb]
        have hpb6 : w6.heap.size ≤ pb := by omega
        clear hw7 hpb z7
        have hp1l : p1 < w5.heap.size := Row.lt hr5.row
        have hp2l : p2 < w6.heap.size := Row.lt hr6.row
        have l67 := l6.trans (l7.mono l6.size)
        have l57 := l5.trans (l67.mono l5.size)
        have hA1 := hr5.keep l67
        have hA2 := hr6.keep l7
        have hS1 := (hq1.keep l57).sl 64 (by rw [List.length_map, hXl]) (by omega)
        have hb2l := hq2.lt
        have hk7 := (hk.keep hlq).keep l57
        have r47 := r4q.keep l57
        have c70 : w7.cell? ⟨pb, 0, none⟩ = some (.pointer (some ⟨p1, 0, none⟩)) := r7.cell 0
        rw [HX1.out] at hS1
        have hW1 := mkHid (write_abs hA1 hS1 (keyX_dg _ _) hk7 (by simp))
        go_upto_region 14 with (go_at_call 68; (with_reducible refine hW1.out.mono ?_); rintro e w8 ⟨⟨v8, rfl⟩, a8, n8, c8, hA18, hf8, ho8⟩)
        simp only [Option.map_none, Option.getD_none, List.nil_append] at hA18 ho8
        have h4p : 4 ≤ p1 ∧ 4 ≤ p2 := by have := hk.lt; have := hlq.size; have := l5.size; omega
        have r78 : Row w8 pb 90 [Value.pointer (some { block := p1, off := 0 }), Value.pointer (some { block := p2, off := 0 })] := (ho8.same pb (Row.lt r7) (by omega) (by omega)).trans r7
        have hb4l : b4 < wr.heap.size := Row.lt r4q
        have r48 := (ho8.same b4 (Row.lt r47) (by omega) (by omega)).trans r47
        have hA28 := hA2.only2 ho8 (by omega) (by omega) (fun p e => by cases e)
        have hS28 := ((hq2.keep l57).only2 ho8 (by omega) (by omega)).sl 64 (by rw [List.length_map, hXl]) (by omega)
        rw [HX2.out] at hS28
        have hW2 := mkHid (write_abs hA28 hS28 (keyX_dg _ _) (hk7.only2 ho8 h4p.1 h4p.1) (by simp))
        have c71 : w8.cell? ⟨pb, 1, none⟩ = some (.pointer (some ⟨p2, 0, none⟩)) := r78.cell 1
        clear hW1
        go_upto_region 15 with (go_at_call 68; (with_reducible refine hW2.out.mono ?_); rintro e w9 ⟨⟨v9, rfl⟩, a9, n9, c9, hA29, hf9, ho9⟩)
        simp only [Option.map_none, Option.getD_none, List.nil_append] at hA29 ho9
        have r79 : Row w9 pb 90 [Value.pointer (some { block := p1, off := 0 }), Value.pointer (some { block := p2, off := 0 })] := (ho9.same pb (Row.lt r78) (by omega) (by omega)).trans r78
        have r49 := (ho9.same b4 (Row.lt r48) (by omega) (by omega)).trans r48
        have hA19 := hA18.only2 ho9 (by omega) (by omega) (fun p e => by have := hf8 p e; have := l7.size; omega)
        have c90 : w9.cell? ⟨pb, 0, none⟩ = some (.pointer (some ⟨p1, 0, none⟩)) := r79.cell 0
        have c91 : w9.cell? ⟨pb, 1, none⟩ = some (.pointer (some ⟨p2, 0, none⟩)) := r79.cell 1
        have f94 := Row.frozen r49
        have c940 : w9.cell? ⟨b4, 0, none⟩ = some (.pointer none) := Row.cell r49 0
        have c941 : w9.cell? ⟨b4, 1, none⟩ = some (.pointer none) := Row.cell r49 1
        clear c70 c71 hW2
        go_wp2
        have hend := (Row.set r49 0 (.pointer (some ⟨p1, 0, none⟩))).set 1 (.pointer (some ⟨p2, 0, none⟩))
        have hg1 : w9.grownBy (w9.setCell ⟨b4, 0, none⟩ (.pointer (some ⟨p1, 0, none⟩))) (some b4) := grown_set (grown_refl _ _) 0 _
        have hg2 := grown_set hg1 1 (.pointer (some ⟨p2, 0, none⟩))
        have hz7 := l7.size
        have hz8 := ho8.size
        have hlw9 : Below w.heap.size w w9 := by
          have h7 := hlq.trans (l57.mono hlq.size)
          have h8 := h7.trans (ho8.below w.heap.size (by omega) (by omega) (by omega))
          exact h8.trans (ho9.below w.heap.size (by omega) (by omega) (by omega))
        obtain ⟨fs, hUK⟩ := under_keyed
        refine bodyPost_ret (results_cell_row (P := Tryd.prog) rfl _ _ b4 90 #[.pointer (some ⟨p1, 0, none⟩), .pointer (some ⟨p2, 0, none⟩)] (0, 0) _ rfl hend hUK rfl size_keyed) rfl ?_
        exact ⟨p1, p2, a8, n8, c8, a9, n9, c9, rfl, hA19.grown hg2 (by omega) (fun p e => by have := hf8 p e; omega), hA29.grown hg2 (by omega) (fun p e => by have := hf9 p e; omega),
          (hlw9.setCell (p := ⟨b4, 0, none⟩) hbB _).setCell (p := ⟨b4, 1, none⟩) hbB _⟩

end Go.Proofs.YtaeamlldocbeeaaDoor
