/- baileyref4: Reseed, New, Bytes. -/
import Derived.Test.YtaeamlldocbeeaaDoorHashR
namespace Go.Proofs.YtaeamlldocbeeaaDoor
open Go.RowKit Go.Shelf Num

theorem rreseed_any {db N dn dc : Nat} {da : Option Addr} {K V data : List Nat} {w : World} (h : Dr 45 w db K V N) (hs : Sl .u8 w da dn dc data) (hd : Dg 256 data) (hn : dn ≤ 1073741824) :
    Calls Tryd.prog 16 #[.pointer (some ⟨db, 0, none⟩), .slice da dn dc] w (GivesUp 45 w db (drUp K V data).1 (drUp K V data).2 0) := by
  have hM := mkHid (rupd_any h hs hd hn)
  clear h hs
  go_enter Tryd.func16, Tryd.ntmps16
  go_wp2_with (go_at_call 21; (with_reducible refine hM.out.mono ?_); rintro e w1 ⟨⟨v, rfl⟩, ⟨ka, kc, va, vc, h1⟩, hg1⟩; have cN := h1.cN; have f1 := h1.row.frozen 2)
  go_end0
  exact ⟨⟨_, rfl⟩, ⟨_, _, _, _, h1.setN 0⟩, grown_set hg1 2 _⟩

/-- i ones, and noughts behind them -/
def onesTo (i : Nat) : List Nat := ones i ++ List.replicate (32 - i) 0

theorem onesTo_len (i : Nat) (h : i ≤ 32) : (onesTo i).length = 32 := by
  unfold onesTo ones
  rw [List.length_append, List.length_replicate, List.length_replicate]
  omega

theorem onesTo_set (i : Nat) (h : i < 32) : (onesTo i).set i 1 = onesTo (i + 1) := by
  have h1 : (ones i).length = i := by unfold ones; rw [List.length_replicate]
  unfold onesTo
  rw [set_grow _ i _ _ 0 h1 h]
  congr 1
  unfold ones
  rw [List.replicate_succ']

theorem new3 (w : World) (T : TypeId) (vs : Array Value) :
    Blk (((w.alloc (Obj.cells (U .u8 Z32).toArray 5)).alloc (Obj.cells (U .u8 Z32).toArray 5)).alloc (Obj.cells vs T)).drew w.heap.size .u8 5 Z32 ∧
    Blk (((w.alloc (Obj.cells (U .u8 Z32).toArray 5)).alloc (Obj.cells (U .u8 Z32).toArray 5)).alloc (Obj.cells vs T)).drew (w.heap.size + 1) .u8 5 Z32 ∧
    Row (((w.alloc (Obj.cells (U .u8 Z32).toArray 5)).alloc (Obj.cells (U .u8 Z32).toArray 5)).alloc (Obj.cells vs T)).drew (w.heap.size + 1 + 1) T vs.toList ∧
    Below w.heap.size w (((w.alloc (Obj.cells (U .u8 Z32).toArray 5)).alloc (Obj.cells (U .u8 Z32).toArray 5)).alloc (Obj.cells vs T)).drew := by
  have h1 : Blk (w.alloc (Obj.cells (U .u8 Z32).toArray 5)) w.heap.size .u8 5 Z32 := heap_alloc_new _ _
  have h2 : Blk ((w.alloc (Obj.cells (U .u8 Z32).toArray 5)).alloc (Obj.cells (U .u8 Z32).toArray 5)) (w.heap.size + 1) .u8 5 Z32 := by
    have := heap_alloc_new (w.alloc (Obj.cells (U .u8 Z32).toArray 5)) (Obj.cells (U .u8 Z32).toArray 5)
    rw [World.size_alloc] at this
    exact this
  have h3 : Row (((w.alloc (Obj.cells (U .u8 Z32).toArray 5)).alloc (Obj.cells (U .u8 Z32).toArray 5)).alloc (Obj.cells vs T)) (w.heap.size + 1 + 1) T vs.toList := by
    have := heap_alloc_new ((w.alloc (Obj.cells (U .u8 Z32).toArray 5)).alloc (Obj.cells (U .u8 Z32).toArray 5)) (Obj.cells vs T)
    rw [World.size_alloc, World.size_alloc] at this
    exact this
  have b1 := below_alloc (Obj.cells (U .u8 Z32).toArray 5) (Nat.le_refl w.heap.size)
  have b2 := b1.alloc b1.size (Obj.cells (U .u8 Z32).toArray 5)
  exact ⟨((h1.alloc _).alloc _).drew, (h2.alloc _).drew, h3, (b2.alloc b2.size _).drew⟩

set_option maxRecDepth 100000 in
set_option maxHeartbeats 2000000 in
theorem rnew_any {dn dc : Nat} {da : Option Addr} {data : List Nat} {w : World} (hs : Sl .u8 w da dn dc data) (hd : Dg 256 data) (hn : dn ≤ 1073741824) :
    Calls Tryd.prog 7 #[.slice da dn dc] w fun e w' => ∃ db, e = .returned (.pointer (some ⟨db, 0, none⟩)) ∧ Dr 45 w' db (drUp Z32 (ones 32) data).1 (drUp Z32 (ones 32) data).2 0 ∧ w.heap.size ≤ db ∧ Below w.heap.size w w' := by
  have hmk := run_mk32
  go_enter Tryd.func7, Tryd.ntmps7
  go_upto_region 1 with (fail)
  go_cut [3] from 5 to 8 (fun q wx => ∃ db k v, q = .pointer (some ⟨db, 0, none⟩) ∧ Row wx db 45 [.slice (some ⟨k, 0, none⟩) 32 32, .slice (some ⟨v, 0, none⟩) 32 32, .int .i64 0] ∧ Blk wx k .u8 5 Z32 ∧ Blk wx v .u8 5 Z32 ∧ k ≠ v ∧ v ≠ db ∧ w.heap.size ≤ db ∧ w.heap.size ≤ v ∧ Below w.heap.size w wx)
  case first =>
    refine wp_region_noPanic ?_
    go_region
    all_goals (
      refine NoPanic.normal ?_
      go_wp2
      go_meet
      case rel =>
        first
          | exact ⟨_, w.heap.size, w.heap.size + 1, rfl, (new3 w 45 _).2.2.1, (new3 w 45 _).1, (new3 w 45 _).2.1, by omega, by omega, by omega, by omega, (new3 w 45 _).2.2.2⟩
          | exact ⟨_, w.heap.size + 1, w.heap.size, rfl, (new3 w 45 _).2.2.1, (new3 w 45 _).2.1, (new3 w 45 _).1, by omega, by omega, by omega, by omega, (new3 w 45 _).2.2.2⟩)
  case rest =>
    obtain ⟨db, k, v, rfl, hrow, hk, hv, hne, hvd, hdb, hvB, hbl⟩ := hcut
    clear hmk
    have hv' : Blk wc v .u8 5 (onesTo 0) := hv
    clear hv
    go_wp2
    go_loopw [4] (fun iv wr => ∃ i : Nat, i ≤ 32 ∧ iv = .int .i64 i ∧ Row wr db 45 [.slice (some ⟨k, 0, none⟩) 32 32, .slice (some ⟨v, 0, none⟩) 32 32, .int .i64 0] ∧ Blk wr k .u8 5 Z32 ∧ Blk wr v .u8 5 (onesTo i) ∧ Below w.heap.size w wr) (fun iv _ => 32 - (intOf iv).toNat)
    case atStart => exact ⟨0, by omega, rfl, hrow, hk, hv', hbl⟩
    case round =>
      clear hrow hk hv' hbl
      obtain ⟨i, hi, rfl, hrow, hk, hv, hbl⟩ := hrel
      by_cases hlt : i < 32
      · have c1 : wr.cell? ⟨db, 1, none⟩ = some (.slice (some ⟨v, 0, none⟩) 32 32) := hrow.cell 1
        have cv := hv.at i (by rw [onesTo_len i hi]; exact hlt)
        have fv := hv.frozen i
        have hset := onesTo_set i hlt
        have HS := mkHid hset
        generalize (onesTo i).getD i 0 = z at cv
        have i32 : (i : Int) < 32 := by omega
        clear hset
        go_wp2
        go_roundw
        case rel =>
          refine ⟨i + 1, by omega, by go_num, hrow.set_other hvd i _, hk.other (p := ⟨v, i, none⟩) (Ne.symm hne) _, ?_, hbl.setCell (p := ⟨v, i, none⟩) hvB _⟩
          have := hv.set i 1
          rw [HS.out] at this
          exact this
        case measure => simp [intOf]; omega
      · obtain rfl : i = 32 := by omega
        have e1 : onesTo 32 = ones 32 := by unfold onesTo; rw [Nat.sub_self, List.replicate_zero, List.append_nil]
        rw [e1] at hv
        have hD : Dr 45 wr db Z32 (ones 32) 0 := ⟨_, _, _, _, hrow, hk.sl 32 rfl (by omega), hv.sl 32 rfl (by omega), Z32_dg, ones_dg 32⟩
        have hM := mkHid (rupd_any hD (hs.keep hbl) hd hn)
        clear e1 hrow hk hv
        go_wp2_with (go_at_call 21; (with_reducible refine hM.out.mono ?_); rintro e w1 ⟨⟨v', rfl⟩, h1, hg1⟩)
        go_ret
        exact ⟨db, rfl, h1, hdb, hbl.trans (grown_below hg1 hdb hbl.size)⟩

set_option maxRecDepth 100000 in
set_option maxHeartbeats 4000000 in
theorem gbytes_any {db N n : Nat} {K V : List Nat} {w : World} (h : Dr 45 w db K V N) (hn1 : 1 ≤ n) (hn : n ≤ 65536) (hN : N < 4611686018427387904) :
    Calls Tryd.prog 9 #[.pointer (some ⟨db, 0, none⟩), .int .i64 (n : Int)] w (GivesBytes 45 w db (bytesOut K V n) n (bytesK K V n) (bytesV K V n) (N + 1)) := by
  obtain ⟨ka, kc, va, vc, h⟩ := h
  have hdb := h.row.lt
  have hkl := h.ks.lt (by omega)
  have t1 : decide ((n : Int) < 1) = false := decide_eq_false (by omega)
  have t2 : decide ((n : Int) > 65536) = false := decide_eq_false (by omega)
  go_enter Tryd.func9, Tryd.ntmps9
  go_wp2
  go_loopw [5] (fun qv wr => ∃ (i : Nat) (a : Option Addr) (c : Nat) (va : Option Addr) (vc : Nat), 32 * i < n + 32 ∧ qv = .slice a (32 * i) c ∧ Own .u8 5 w.heap.size wr a (32 * i) c (outAt K V i) ∧ DrAt 45 wr db K (vAt K V i) N ka kc va vc ∧ w.grownBy wr (some db)) (fun q _ => match q with | .slice _ m _ => n - m | _ => 0)
  case atStart => exact ⟨0, none, 0, va, vc, by omega, rfl, Own.nilOwn _ _ _ _, h, grown_refl _ _⟩
  case round =>
    have hw := h
    clear h
    obtain ⟨i, a, c, va, vc, hi, rfl, ho, h, hg⟩ := hrel
    by_cases hlt : 32 * i < n
    · have hz := hg.size
      have hfr := ho.fresh
      have hal := ho.lt
      have cK := h.cK
      have cV := h.cV
      have hb1 := (below_alloc (Obj.cells #[.slice va 32 vc] 22) (Nat.le_refl wr.heap.size)).drew
      have cK1 := (h.keep hb1).cK
      have hM := mkHid (rmac1 h)
      have t3 : decide (32 * (i : Int) < (n : Int)) = true := decide_eq_true (by omega)
      go_upto_region 5 with (fail)
      go_cut [] from 16 to 28 (fun wc => ∃ a2 c2, DrAt 45 wc db K (vAt K V (i + 1)) N ka kc a2 c2 ∧ (∀ p, a2 = some p → wr.heap.size ≤ p.block) ∧ wr.grownBy wc (some db))
      case first =>
        refine wp_region_noPanic ?_
        go_region_with (go_at_call 23; (with_reducible refine hM.out.mono ?_); rintro e w1 ⟨a1, c1, rfl, ho1, hq1, fr1⟩; have h1 := h.keep hq1; have cVq := h1.cV; have f1 := h1.row.frozen 1)
        all_goals (
          refine NoPanic.normal ?_
          go_wp2
          go_meet
          case rel => exact ⟨_, _, h1.setV ho1 (up2_dg _ _), fr1, grown_set (below_grown hq1 _) 1 _⟩)
      case rest =>
        obtain ⟨a2, c2, h3, fr2, hg3⟩ := hcut
        have ho3 := ho.kept' hg3 (fun p e => by have := ho.fresh p e; omega)
        have hgw := grown_trans hg hg3
        have hso := h3.vs
        have cV3 := h3.cV
        have hz3 := hgw.size
        clear cK cV hb1 cK1 hM
        obtain ⟨W3, rfl⟩ : ∃ x, x = wc := ⟨_, rfl⟩
        go_wp2_with (at_builtin; refine wpList_appG rfl (.tmp 29) (.tmp 33) 22 rfl 5 .u8 1 under_bytes info_u8 w.heap.size hz3 a (32 * i) c _ rfl ho3 _ _ _ _ rfl hso (by omega) (by omega) ?_; intro a4 c4 w4 ho4 hg4)
        go_roundw
        case rel =>
          have hr4 : ∀ b, (Value.slice a (32 * i) c).ownBlock = some b → w.heap.size ≤ b ∧ b < wr.heap.size := by
            intro b e
            cases a with
            | none => cases e
            | some p => cases e; exact ⟨ho3.fresh p rfl, hal p rfl⟩
          refine ⟨i + 1, a4, c4, a2, c2, by omega, rfl, ho4, ?_, grown_fresh hgw hg4 (fun b e => (hr4 b e).1)⟩
          refine h3.grownR hg4 (fun e => ?_) (fun p e e' => ?_) (fun p e e' => ?_)
          · have := hr4 _ e.symm; omega
          · have := hr4 _ e'.symm; have := hkl p e; omega
          · have := hr4 _ e'.symm; have := fr2 p e; omega
        case measure => simp; omega
    · have hr : (n + 31) / 32 = i := by omega
      have hM := mkHid (rupd_any ⟨_, _, _, _, h⟩ (Sl.nilSl .u8 wr) Dg.nil (by omega))
      have hnc : n ≤ c := by have := ho.sl.le; omega
      have hnc' : (n : Int) ≤ (c : Int) := by omega
      go_upto_region 8 with (go_at_call 21; (with_reducible refine hM.out.mono ?_); rintro e w2 ⟨⟨v, rfl⟩, ⟨ka2, kc2, va2, vc2, h2⟩, hg2⟩; have cN := h2.cN; have f2 := h2.row.frozen 2)
      have ho2 := ho.kept' hg2 (fun p e => by have := ho.fresh p e; omega)
      go_wp2
      go_ret
      have hgN := grown_set (grown_refl w2 (some db)) 2 (.int .i64 ((N : Int) + 1))
      have hs := (ho2.kept' hgN (fun p e => by have := ho2.fresh p e; omega)).sl.take n (by omega)
      refine ⟨a, c, rfl, ?_, ?_, grown_set (grown_trans hg hg2) 2 _⟩
      · unfold bytesOut
        rw [hr]
        exact hs
      · have := h2.setN (N + 1)
        unfold bytesK bytesV
        rw [hr]
        exact ⟨_, _, _, _, this⟩

theorem gbytes_none {db : Nat} {z : Int} {w : World} (hz : z < 1 ∨ 65536 < z) :
    Calls Tryd.prog 9 #[.pointer (some ⟨db, 0, none⟩), .int .i64 z] w fun e w' => e = .returned (.slice none 0 0) ∧ w = w' := by
  by_cases h1 : z < 1
  · have t1 : decide (z < 1) = true := decide_eq_true h1
    clear hz
    go_enter Tryd.func9, Tryd.ntmps9
    go_wp2
    go_ret
    exact ⟨rfl, rfl⟩
  · have t1 : decide (z < 1) = false := decide_eq_false h1
    have h2 : 65536 < z := by omega
    have t2 : decide (z > 65536) = true := decide_eq_true h2
    clear hz
    go_enter Tryd.func9, Tryd.ntmps9
    go_wp2
    go_ret
    exact ⟨rfl, rfl⟩

end Go.Proofs.YtaeamlldocbeeaaDoor
