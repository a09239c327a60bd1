/- drbg: New, Bytes. -/
import Derived.Test.YtaeamlldocbeeaaDoorHashL
import Derived.Deep.RegionHeld3
namespace Go.Proofs.YtaeamlldocbeeaaDoor
open Go.RowKit Go.Shelf Num

def Z32 : List Nat := List.replicate 32 0

theorem run_mk32 (W : World) : (Instr.makeSlice 22 (.int .i64 32) (.int .i64 32)).run Tryd.prog W = .ok (.slice (some ⟨W.heap.size, 0, none⟩) 32 32) (W.alloc (Obj.cells (U .u8 Z32).toArray 5)) :=
  run_mkn 32 W (by omega)

theorem ones_dg (n : Nat) : Dg 256 (ones n) := by
  intro x hx
  have := List.eq_of_mem_replicate hx
  omega
theorem Z32_dg : Dg 256 Z32 := by unfold Z32; exact Dg.replicate (by omega) _

theorem DrAt.new {T : TypeId} {w w' : World} {k n1 : Nat} {K V : List Nat} {va : Option Addr} {vc : Nat} (hk : Blk w k .u8 5 K) (hn : K.length = 32) (hv : Sl .u8 w va 32 vc V) (hkd : Dg 256 K) (hvd : Dg 256 V)
    (he : w' = (w.alloc (Obj.cells #[.slice (some ⟨k, 0, none⟩) 32 32, .slice va 32 vc, .int .i64 0] T))) (hn1 : n1 = w.heap.size) : Dr T w' n1 K V 0 := by
  subst he
  subst hn1
  have hb := below_alloc (Obj.cells #[.slice (some ⟨k, 0, none⟩) 32 32, .slice va 32 vc, .int .i64 0] T) (Nat.le_refl w.heap.size)
  exact ⟨_, _, _, _, heap_alloc_new _ _, (hk.sl 32 hn (by omega)).keep hb, hv.keep hb, hkd, hvd⟩

set_option maxRecDepth 100000 in
set_option maxHeartbeats 2000000 in
theorem pnew_any {dn dc : Nat} {da : Option Addr} {data : List Nat} {w : World} (hs : Sl .u8 w da dn dc data) (hd : Dg 256 data) (hn : dn ≤ 1073741824) (hk : KTab w) :
    Calls Tryd.prog 6 #[.slice da dn dc] w fun e w' => ∃ db, e = .returned (.pointer (some ⟨db, 0, none⟩)) ∧ Dr 52 w' db (drUp Z32 (ones 32) data).1 (drUp Z32 (ones 32) data).2 0 ∧ w.heap.size ≤ db ∧ Below w.heap.size w w' := by
  go_enter Tryd.func6, Tryd.ntmps6
  go_upto_region 1 with (fail)
  have hmk := run_mk32
  go_cut [3] from 4 to 8 (fun q wx => ∃ db, q = .pointer (some ⟨db, 0, none⟩) ∧ Dr 52 wx db Z32 (ones 32) 0 ∧ w.heap.size ≤ db ∧ Below w.heap.size w wx)
  case first =>
    refine wp_region_noPanic ?_
    have zb := below_alloc (Obj.cells (U .u8 Z32).toArray 5) (Nat.le_refl w.heap.size)
    have ob := below_alloc (Obj.cells #[Value.int IntKind.u8 1] 5) (Nat.le_refl w.heap.size)
    have hz : Blk (w.alloc (Obj.cells (U .u8 Z32).toArray 5)) w.heap.size .u8 5 Z32 := heap_alloc_new _ _
    have ho : Blk (w.alloc (Obj.cells #[Value.int IntKind.u8 1] 5)) w.heap.size .u8 5 [1] := heap_alloc_new _ _
    have hzA := hz.alloc (Obj.cells #[Value.int IntKind.u8 1] 5)
    have hoA : Blk ((w.alloc (Obj.cells (U .u8 Z32).toArray 5)).alloc (Obj.cells #[Value.int IntKind.u8 1] 5)) (w.heap.size + 1) .u8 5 [1] := by
      have := heap_alloc_new (w.alloc (Obj.cells (U .u8 Z32).toArray 5)) (Obj.cells #[Value.int IntKind.u8 1] 5)
      rw [World.size_alloc] at this
      exact this
    have hoB := ho.alloc (Obj.cells (U .u8 Z32).toArray 5)
    have hzB : Blk ((w.alloc (Obj.cells #[Value.int IntKind.u8 1] 5)).alloc (Obj.cells (U .u8 Z32).toArray 5)) (w.heap.size + 1) .u8 5 Z32 := by
      have := heap_alloc_new (w.alloc (Obj.cells #[Value.int IntKind.u8 1] 5)) (Obj.cells (U .u8 Z32).toArray 5)
      rw [World.size_alloc] at this
      exact this
    have bA := (zb.alloc zb.size (Obj.cells #[Value.int IntKind.u8 1] 5)).drew
    have bB := (ob.alloc ob.size (Obj.cells (U .u8 Z32).toArray 5)).drew
    have rA := mkHid (repeat_any (hoA.drew.sl 1 rfl (by omega)))
    have rB := mkHid (repeat_any (hoB.drew.sl 1 rfl (by omega)))
    have rC := mkHid (repeat_any (ho.drew.sl 1 rfl (by omega)))
    go_region_with (first
      | (go_at_call 19; (with_reducible refine rA.out.mono ?_); rintro e w1 ⟨rb, rfl, hv, hb1⟩; have hzz := hzA.drew.keep hb1; have hbb := bA.trans (hb1.mono bA.size))
      | (go_at_call 19; (with_reducible refine rB.out.mono ?_); rintro e w1 ⟨rb, rfl, hv, hb1⟩; have hzz := hzB.drew.keep hb1; have hbb := bB.trans (hb1.mono bB.size))
      | (go_at_call 19; (with_reducible refine rC.out.mono ?_); rintro e w1 ⟨rb, rfl, hv, hb1⟩; have hbb := ob.drew.trans (hb1.mono ob.size); have hzz : Blk (w1.alloc (Obj.cells (U .u8 Z32).toArray 5)) w1.heap.size .u8 5 Z32 := heap_alloc_new _ _; have hv1 := hv.keep (below_alloc (Obj.cells (U .u8 Z32).toArray 5) (Nat.le_refl w1.heap.size))))
    all_goals (
      refine NoPanic.normal ?_
      go_wp2
      go_meet
      case rel =>
        first
          | exact ⟨_, rfl, DrAt.new hzz rfl hv Z32_dg (ones_dg 32) rfl rfl, hbb.size, hbb.alloc hbb.size _⟩
          | exact ⟨_, rfl, DrAt.new hzz rfl hv1 Z32_dg (ones_dg 32) rfl (by simp), by have := hbb.size; omega, (hbb.alloc hbb.size _).alloc (by have := hbb.size; simp; omega) _⟩)
  case rest =>
    obtain ⟨db, rfl, hD, hdB, hb⟩ := hcut
    have hM := mkHid (pupd_any hD (hs.keep hb) hd hn (hk.keep hb))
    clear hmk
    go_wp2_with (go_at_call 20; (with_reducible refine hM.out.mono ?_); rintro e w1 ⟨⟨v, rfl⟩, h1, hg1⟩)
    go_ret
    exact ⟨db, rfl, h1, hdB, hb.trans (grown_below hg1 hdB hb.size)⟩

/-- what Bytes computes -/
def vAt (K V : List Nat) : Nat → List Nat
  | 0 => V
  | i + 1 => up2 K (vAt K V i)

def outAt (K V : List Nat) : Nat → List Nat
  | 0 => []
  | i + 1 => outAt K V i ++ vAt K V (i + 1)

theorem vAt_dg {K V : List Nat} (h : Dg 256 V) : ∀ i, Dg 256 (vAt K V i)
  | 0 => h
  | _ + 1 => up2_dg _ _

theorem outAt_len (K V : List Nat) : ∀ i, (outAt K V i).length = 32 * i
  | 0 => rfl
  | i + 1 => by rw [outAt, List.length_append, outAt_len K V i, vAt, up2, hmacS_len]; omega

theorem outAt_dg (K V : List Nat) : ∀ i, Dg 256 (outAt K V i)
  | 0 => Dg.nil
  | i + 1 => (outAt_dg K V i).append (up2_dg _ _)

def bytesOut (K V : List Nat) (n : Nat) : List Nat := (outAt K V ((n + 31) / 32)).take n
def bytesK (K V : List Nat) (n : Nat) : List Nat := (drUp K (vAt K V ((n + 31) / 32)) []).1
def bytesV (K V : List Nat) (n : Nat) : List Nat := (drUp K (vAt K V ((n + 31) / 32)) []).2

theorem Sl.lt {k : IntKind} {w : World} {a : Option Addr} {n c : Nat} {xs : List Nat} (h : Sl k w a n c xs) (hn : 0 < n) : ∀ p, a = some p → p.block < w.heap.size := by
  intro p e
  obtain ⟨b, o, e', hc⟩ := h.rd 0 (by rw [h.len]; exact hn)
  rw [e'] at e
  cases e
  exact cell_lt hc

theorem grown_fresh {w w1 w2 : World} {db : Nat} {r : Option Nat} (h : w.grownBy w1 (some db)) (hg : w1.grownBy w2 r) (hr : ∀ b, r = some b → w.heap.size ≤ b) : w.grownBy w2 (some db) := by
  refine ⟨hg.os.trans h.os, hg.tape.trans h.tape, hg.output.trans h.output, Nat.le_trans h.size hg.size, fun i hi hne => ?_⟩
  rw [hg.block i (Nat.lt_of_lt_of_le hi h.size) (fun e => by have := hr i e.symm; omega)]
  exact h.block i hi hne

theorem Sl.grownR {k : IntKind} {w w' : World} {a : Option Addr} {n c : Nat} {xs : List Nat} {r : Option Nat} (h : Sl k w a n c xs) (hg : w.grownBy w' r) (hne : ∀ p, a = some p → some p.block ≠ r) : Sl k w' a n c xs := by
  refine ⟨h.len, h.le, h.cap, h.nil, h.spot, fun i hi => ?_⟩
  obtain ⟨b, o, e, hc⟩ := h.rd i hi
  refine ⟨b, o, e, ?_⟩
  rw [World.cell?_of_block (hg.block b (cell_lt hc) (hne _ e))]
  exact hc

theorem DrAt.grownR {T : TypeId} {w w' : World} {db N kc vc : Nat} {K V : List Nat} {ka va : Option Addr} {r : Option Nat} (h : DrAt T w db K V N ka kc va vc) (hg : w.grownBy w' r) (h1 : some db ≠ r) (h2 : ∀ p, ka = some p → some p.block ≠ r) (h3 : ∀ p, va = some p → some p.block ≠ r) : DrAt T w' db K V N ka kc va vc :=
  ⟨h.row.grownR hg h1, h.ks.grownR hg h2, h.vs.grownR hg h3, h.kd, h.vd⟩

/-- bytes are the result; the generator moved on -/
def GivesBytes (T : TypeId) (w : World) (db : Nat) (xs : List Nat) (n : Nat) (K V : List Nat) (N : Nat) (e : Ending) (w' : World) : Prop :=
  ∃ a c, e = .returned (.slice a n c) ∧ Sl .u8 w' a n c xs ∧ Dr T w' db K V N ∧ w.grownBy w' (some db)

set_option maxRecDepth 100000 in
set_option maxHeartbeats 2000000 in
theorem pbytes_any {db N n : Nat} {K V : List Nat} {w : World} (h : Dr 52 w db K V N) (hn1 : 1 ≤ n) (hn : n ≤ 65536) (hN : N < 4611686018427387904) (hk : KTab w) :
    Calls Tryd.prog 8 #[.pointer (some ⟨db, 0, none⟩), .int .i64 (n : Int)] w (GivesBytes 52 w db (bytesOut K V n) n (bytesK K V n) (bytesV K V n) (N + 1)) := by
  obtain ⟨ka, kc, va, vc, h⟩ := h
  have hdb := h.row.lt
  have hkl := h.ks.lt (by omega)
  have h3w := hk.lt
  have t1 : decide ((n : Int) < 1) = false := decide_eq_false (by omega)
  have t2 : decide ((n : Int) > 65536) = false := decide_eq_false (by omega)
  go_enter Tryd.func8, Tryd.ntmps8
  go_wp2
  go_loopw [5] (fun qv wr => ∃ (i : Nat) (a : Option Addr) (c : Nat) (va : Option Addr) (vc : Nat), 32 * i < n + 32 ∧ qv = .slice a (32 * i) c ∧ Own .u8 5 w.heap.size wr a (32 * i) c (outAt K V i) ∧ DrAt 52 wr db K (vAt K V i) N ka kc va vc ∧ w.grownBy wr (some db) ∧ KTab wr) (fun q _ => match q with | .slice _ m _ => n - m | _ => 0)
  case atStart => exact ⟨0, none, 0, va, vc, by omega, rfl, Own.nilOwn _ _ _ _, h, grown_refl _ _, hk⟩
  case round =>
    have hw := h
    clear h hk
    obtain ⟨i, a, c, va, vc, hi, rfl, ho, h, hg, hk⟩ := hrel
    by_cases hlt : 32 * i < n
    · have cV := h.cV
      have hM := mkHid (mac1 h hk)
      have hz := hg.size
      go_upto_region 6 with (go_at_call 22; (with_reducible refine hM.out.mono ?_); rintro e w2 ⟨a2, c2, rfl, ho2, hb2, fr2⟩; have h2 := h.keep hb2; have cV2 := h2.cV; have f2 := h2.row.frozen 1)
      have hg3 : wr.grownBy (w2.setCell ⟨db, 1, none⟩ (.slice a2 32 c2)) (some db) := grown_set (below_grown hb2 _) 1 _
      have hk3 := h.kt hk hg3
      have h3 := h2.setV ho2 (up2_dg _ _)
      have ho3 := ho.kept' hg3 (fun p e => by have := ho.fresh p e; omega)
      have hgw := grown_trans hg hg3
      have hal := ho.lt
      have hso := h3.vs
      clear cV hM cV2 f2 h2 ho2
      generalize w2.setCell ⟨db, 1, none⟩ (.slice a2 32 c2) = W3 at *
      have cV3 := h3.cV
      have hz3 := hgw.size
      go_wp2_with (at_builtin; refine wpList_appG rfl (.tmp 30) (.tmp 34) 22 rfl 5 .u8 1 under_bytes info_u8 w.heap.size hz3 a (32 * i) c _ rfl ho3 _ _ _ _ rfl hso (by omega) (by omega) ?_; intro a4 c4 w4 ho4 hg4)
      go_roundw
      case rel =>
        have hr4 : ∀ b, (Value.slice a (32 * i) c).ownBlock = some b → w.heap.size ≤ b ∧ b < wr.heap.size := by
          intro b e
          cases a with
          | none => cases e
          | some p => cases e; exact ⟨ho3.fresh p rfl, hal p rfl⟩
        refine ⟨i + 1, a4, c4, a2, c2, by omega, rfl, ho4, ?_, grown_fresh hgw hg4 (fun b e => (hr4 b e).1), ?_⟩
        · refine h3.grownR hg4 (fun e => ?_) (fun p e e' => ?_) (fun p e e' => ?_)
          · have := hr4 _ e.symm; omega
          · have := hr4 _ e'.symm; have := hkl p e; omega
          · have := hr4 _ e'.symm; have := fr2 p e; omega
        · exact hk3.grownR hg4 (fun e => by have := hr4 _ e.symm; omega)
      case measure => simp; omega
    · have hr : (n + 31) / 32 = i := by omega
      have hM := mkHid (pupd_any ⟨_, _, _, _, h⟩ (Sl.nilSl .u8 wr) Dg.nil (by omega) hk)
      have hnc : n ≤ c := by have := ho.sl.le; omega
      have hnc' : (n : Int) ≤ (c : Int) := by omega
      go_upto_region 8 with (go_at_call 20; (with_reducible refine hM.out.mono ?_); rintro e w2 ⟨⟨v, rfl⟩, ⟨ka2, kc2, va2, vc2, h2⟩, hg2⟩; have cN := h2.cN; have f2 := h2.row.frozen 2)
      have ho2 := ho.kept' hg2 (fun p e => by have := ho.fresh p e; omega)
      go_wp2
      go_ret
      have hgN := grown_set (grown_refl w2 (some db)) 2 (.int .i64 ((N : Int) + 1))
      have hs := (ho2.kept' hgN (fun p e => by have := ho2.fresh p e; omega)).sl.take n (by omega)
      refine ⟨a, n, rfl, ?_, ?_, grown_set (grown_trans hg hg2) 2 _⟩
      · unfold bytesOut
        rw [hr]
        exact ⟨hs.len, Nat.le_refl _, by omega, fun e => (by subst e; have := ho.sl.nil rfl; omega), fun p e _ => hs.spot p e (by omega), hs.rd⟩
      · have := h2.setN (N + 1)
        unfold bytesK bytesV
        rw [hr]
        exact ⟨_, _, _, _, this⟩

theorem pbytes_none {db : Nat} {z : Int} {w : World} (hz : z < 1 ∨ 65536 < z) :
    Calls Tryd.prog 8 #[.pointer (some ⟨db, 0, none⟩), .int .i64 z] w fun e w' => e = .returned (.slice none 0 0) ∧ w = w' := by
  by_cases h1 : z < 1
  · have t1 : decide (z < 1) = true := decide_eq_true h1
    clear hz
    go_enter Tryd.func8, Tryd.ntmps8
    go_wp2
    go_ret
    exact ⟨rfl, rfl⟩
  · have t1 : decide (z < 1) = false := decide_eq_false h1
    have h2 : 65536 < z := by omega
    have t2 : decide (z > 65536) = true := decide_eq_true h2
    clear hz
    go_enter Tryd.func8, Tryd.ntmps8
    go_wp2
    go_ret
    exact ⟨rfl, rfl⟩

end Go.Proofs.YtaeamlldocbeeaaDoor
