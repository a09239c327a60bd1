/- baileylaw1: begun answers true. -/
import Derived.Laws.BytesArg
import Derived.Test.YtaeamlldocbeeaaEach1
import Derived.Test.YtaeamlldocbeeaaLimbD
import Derived.Test.YtaeamlldocbeeaaLimbB
namespace Go.Proofs.Ytaeamlldocbeeaa
open Go.RowKit Go.Shelf Num

attribute [local go_sem] Oper.semAt_some

def strOf (bs : List Nat) : ByteArray := strOfNums (bs.map fun (x : Nat) => (x : Int))

theorem Sl.convert_at {P : Program} {w : World} {a : Option Addr} {n c : Nat} {bs : List Nat} (h : Sl .u8 w a n c bs) (hc : ∀ p, a = some p → p.spot = none) (src e dst : TypeId) (hs : P.underlying src = some (.slice e)) (he : P.underlying e = some (.int .u8))
    (hd : P.underlying dst = some .string) : (convert src dst (.slice a n c)).run P w = .ok (.string (strOf bs)) w := by
  cases a with
  | none =>
    obtain rfl : c = 0 := h.nil rfl
    obtain rfl : n = 0 := by have := h.le; omega
    obtain rfl : bs = [] := List.eq_nil_of_length_eq_zero h.len
    exact run_convert_bytes_nil w src e hs he 0 0 dst hd
  | some p =>
    obtain ⟨b, o, s⟩ := p
    have := hc _ rfl
    simp at this
    subst this
    refine run_convert_bytes_arg w src e hs he b o n c _ (by rw [List.length_map]; exact h.len) (fun i hi => ?_) dst hd
    have hl := h.len
    rw [h.cell i (by omega)]
    simp [List.getD, hl, hi]

theorem run_eql_func_nil {P : Program} (w : World) (t : TypeId) (A1 A2 : Array TypeId) (v : Bool) (f : Fn) (ts lb : Array Value) (h : P.underlying t = some (.func A1 A2 v)) :
    (binOp .eql t (.func f ts lb) .nilFunc).run P w = .ok (.bool false) w := by
  have h1 : ∀ d, (Op.equalIn (d + 1) t (.func f ts lb) .nilFunc).run P w = .ok false w := by
    intro d
    simp [Op.equalIn, run_underlying h]
  simp only [binOp]
  simp [Op.equal, Op.maxDepth, h1 9999]

theorem under_seq : Try.prog.underlying 40 = some (.func #[81] #[] false) := by kernel_rfl

theorem under_u8 : Try.prog.underlying 5 = some (.int .u8) := by kernel_rfl

theorem under_str : Try.prog.underlying 9 = some .string := by kernel_rfl

theorem dig_one (x : Nat) (h : x < 18446744073709551616) (h0 : x ≠ 0) : dig 18446744073709551616 x = [x] := dig_lt_base _ (by omega) h h0

theorem one_val (x : Nat) : val 18446744073709551616 [x] = x := val_single _ _

theorem one_dg (x : Nat) (h : x < 18446744073709551616) : Dg 18446744073709551616 [x] := Dg.cons h Dg.nil

theorem quo72 (w : World) : Calls Try.prog 16 #[.slice (some ⟨w.heap.size, 0, none⟩) 1 1, .slice (some ⟨w.heap.size + 1, 0, none⟩) 1 1]
    ((w.alloc (Obj.cells #[.int .u64 7] 54)).alloc (Obj.cells #[.int .u64 2] 54)) fun e w' => ∃ a1 c1 a2 c2, e = .returned (.tuple #[.slice a1 1 c1, .slice a2 1 c2, .bool true]) ∧
      Sl .u64 w' a1 1 c1 [3] ∧ Sl .u64 w' a2 1 c2 [1] ∧ Below w.heap.size w w' := by
  have h1 := ((Blk.new1 w .u64 54 7).alloc (Obj.cells #[.int .u64 2] 54)).sl 1 rfl (by omega)
  have h2 := (Blk.new1 (w.alloc (Obj.cells #[.int .u64 7] 54)) .u64 54 2).sl 1 rfl (by omega)
  rw [World.size_alloc] at h2
  have hb : Below w.heap.size w ((w.alloc (Obj.cells #[.int .u64 7] 54)).alloc (Obj.cells #[.int .u64 2] 54)) :=
    (below_alloc _ (Nat.le_refl _)).alloc (by rw [World.size_alloc]; omega) _
  refine (quo_any h1 h2 (one_dg 7 (by omega)) (one_dg 2 (by omega)) (by omega) (by rw [one_val]; omega)).mono ?_
  rintro e w' ⟨a1, n1, c1, a2, n2, c2, rfl, ho1, ho2, hb'⟩
  rw [one_val, one_val, show 7 / 2 = 3 from rfl, dig_one 3 (by omega) (by omega)] at ho1
  rw [one_val, one_val, show 7 % 2 = 1 from rfl, dig_one 1 (by omega) (by omega)] at ho2
  obtain rfl : n1 = 1 := ho1.len.symm
  obtain rfl : n2 = 1 := ho2.len.symm
  exact ⟨a1, c1, a2, c2, rfl, ho1.sl, ho2.sl, hb.trans (hb'.mono hb.size)⟩

theorem bytes256 (w : World) : Calls Try.prog 30 #[.slice (some ⟨w.heap.size, 0, none⟩) 1 1, .int .i64 4]
    (w.alloc (Obj.cells #[.int .u64 256] 54)) fun e w' => ∃ a1 c1, e = .returned (.tuple #[.slice a1 4 c1, .bool true]) ∧ Sl .u8 w' a1 4 c1 [0, 0, 1, 0] ∧ Below w.heap.size w w' := by
  have h1 := (Blk.new1 w .u64 54 256).sl 1 rfl (by omega)
  have hb : Below w.heap.size w (w.alloc (Obj.cells #[.int .u64 256] 54)) := below_alloc _ (Nat.le_refl _)
  refine (bytes_any h1 (one_dg 256 (by omega)) (by omega) 4).mono ?_
  rintro e w' ⟨a1, n1, c1, rfl, ho1, hb'⟩
  have hf : fitsB 256 4 = true := by
    refine decide_eq_true ⟨by omega, by omega, ?_⟩
    have := (bitLen_le 256 9).2 (by omega)
    omega
  rw [one_val, hf, if_pos rfl] at ho1
  have e1 : beN (4 : Int).toNat 256 = [0, 0, 1, 0] := by decide
  rw [e1] at ho1
  obtain rfl : n1 = 4 := ho1.len.symm
  rw [one_val, hf]
  exact ⟨a1, c1, rfl, ho1.sl, hb.trans (hb'.mono hb.size)⟩

theorem each6 (w : World) : Calls Try.prog 26 #[.slice (some ⟨w.heap.size, 0, none⟩) 1 1]
    (w.alloc (Obj.cells #[.int .u64 6] 54)) fun e w' => ∃ Bs, e = .returned (.func (.func 71) #[] #[.pointer (some ⟨Bs, 0, none⟩)]) ∧ BoxSl w' Bs 6 ∧ Below w.heap.size w w' := by
  have h1 := (Blk.new1 w .u64 54 6).sl 1 rfl (by omega)
  have hb : Below w.heap.size w (w.alloc (Obj.cells #[.int .u64 6] 54)) := below_alloc _ (Nat.le_refl _)
  refine (each_any h1 (one_dg 6 (by omega)) (by omega)).mono ?_
  rintro e w' ⟨Bs, rfl, hbox, hb'⟩
  rw [one_val] at hbox
  exact ⟨Bs, rfl, hbox, hb.trans (hb'.mono hb.size)⟩

theorem bits8 (w : World) : Calls Try.prog 28 #[.slice (some ⟨w.heap.size, 0, none⟩) 1 1]
    (w.alloc (Obj.cells #[.int .u64 8] 54)) fun e w' => e = .returned (.int .i64 4) ∧ w' = w.alloc (Obj.cells #[.int .u64 8] 54) := by
  have h1 := (Blk.new1 w .u64 54 8).sl 1 rfl (by omega)
  refine (bits_any h1 (one_dg 8 (by omega)) (by omega)).mono ?_
  rintro e w' ⟨rfl, rfl⟩
  rw [one_val]
  have e1 : bitLen 8 = 4 := by
    have := (bitLen_le 8 4).2 (by omega)
    have := (lt_bitLen 8 3).2 (by omega)
    omega
  rw [e1]
  exact ⟨rfl, rfl⟩

theorem bits6 : bitLen 6 = 3 := by
  have := (bitLen_le 6 3).2 (by omega)
  have := (lt_bitLen 6 2).2 (by omega)
  omega

theorem cmp31 {a1 a2 : Option Addr} {c1 c2 : Nat} {w : World} (h1 : Sl .u64 w a1 1 c1 [3]) (h2 : Sl .u64 w a2 1 c2 [1]) :
    Calls Try.prog 36 #[.slice a1 1 c1, .slice a2 1 c2] w fun e w' => e = .returned (.int .i64 1) ∧ Below w.heap.size w w' := by
  refine (cmp_any h1 h2 (one_dg 3 (by omega)) (one_dg 1 (by omega)) (by omega)).mono ?_
  rintro e w' ⟨rfl, hb⟩
  rw [one_val, one_val]
  exact ⟨rfl, hb⟩

set_option maxRecDepth 100000 in
set_option maxHeartbeats 2000000 in
theorem begun_any (w : World) : Calls Try.prog 13 #[] w (GivesBool w true) := by
  have qT : ∀ (w : World) (f : Fn) (ts lb : Array Value), (binOp .eql 40 (.func f ts lb) .nilFunc).run Try.prog w = .ok (.bool false) w := fun w f ts lb => run_eql_func_nil w 40 _ _ _ f ts lb under_seq
  refine (callsIn_wide (n := 4)).1 ?_
  refine callsIn_of_wp_marks Try.func13 rfl trivial ?_ rfl
  simp only [Try.ntmps13, List.size_toArray, List.length_nil, Nat.reduceSub, Array.replicate_succ, Array.replicate_zero, List.push_toArray, List.append_toArray, List.nil_append, List.cons_append]
  gi_wp2_with (first
    | (refine ⟨trivial, ?_⟩; gi_at_call 16; refine (callsIn_wide.2 (quo72 w)).mono ?_; rintro e w1 ⟨a1, c1, a2, c2, rfl, hq, hr, hb1⟩)
    | (refine ⟨trivial, ?_⟩; gi_at_call 30; refine (callsIn_wide.2 (bytes256 _)).mono ?_; rintro e w2 ⟨a3, c3, rfl, hby, hb2⟩)
    | (refine ⟨trivial, ?_⟩; gi_at_call 26; refine (callsIn_wide.2 (each6 _)).mono ?_; rintro e w3 ⟨Bs, rfl, hbox, hb3⟩))
  have hB0 : Below w3.heap.size w3 (w3.alloc (Obj.cells #[Value.int .i64 0] 3)) := below_alloc _ (Nat.le_refl _)
  have hr0 : Row (w3.alloc (Obj.cells #[Value.int .i64 0] 3)) w3.heap.size 3 [Value.int .i64 0] := by
    unfold Row
    rw [heap_alloc_new]
  have hc : (w3.alloc (Obj.cells #[Value.int .i64 0] 3)).cell? ⟨w3.heap.size, 0, none⟩ = some (.int .i64 0) ∧ (w3.alloc (Obj.cells #[Value.int .i64 0] 3)).frozen? ⟨w3.heap.size, 0, none⟩ = false :=
    ⟨by rw [hr0.cell]; rfl, hr0.frozen 0⟩
  refine wpIn_rangeFunc_ownF rfl (by omega) (gf := 71) (lb := #[.pointer (some ⟨Bs, 0, none⟩)]) rfl trivial (enters_of Try.func71 (by kernel_rfl) rfl)
    (each_stops Bs 6 w3 hbox) belowK_t (belowK_b (by simp)) hB0 (fun _ => rfl)
    (fun pre W => (W.cell? ⟨w3.heap.size, 0, none⟩ = some (.int .i64 (pre.length : Int)) ∧ W.frozen? ⟨w3.heap.size, 0, none⟩ = false) ∧ Below w3.heap.size w3 W)
    (fun _ _ _ => False)
    (OwnFrom.and (Own.from (fun s A B row hs hg hr => ⟨cell_kept hs.1 hg hr, (frozen_kept hs.1 hg hr).trans hs.2⟩) _) (ownFrom_below (Nat.le_refl _) (by simp)))
    (fun _ _ _ _ _ hs _ _ => hs)
    ⟨⟨hc.1, hc.2⟩, hB0⟩
    (fun x => { tmps := #[Value.bool false, Value.slice a1 1 c1, Value.slice a2 1 c2, Value.bool true, Value.slice a3 4 c3, Value.bool true, Value.func (Fn.func 71) #[] #[Value.pointer (some { block := Bs, off := 0 })], Value.pointer (some { block := w3.heap.size, off := 0 }), Value.tuple #[Value.slice a1 1 c1, Value.slice a2 1 c2, Value.bool true], Value.slice (some { block := w.heap.size, off := 0 }) 1 1, Value.slice (some { block := w.heap.size + 1, off := 0 }) 1 1, Value.tuple #[Value.slice a1 1 c1, Value.slice a2 1 c2, Value.bool true], Value.slice a1 1 c1, Value.slice a2 1 c2, Value.bool true, Value.tuple #[Value.slice a3 4 c3, Value.bool true], Value.slice (some { block := w1.heap.size, off := 0 }) 1 1, Value.tuple #[Value.slice a3 4 c3, Value.bool true], Value.slice a3 4 c3, Value.bool true, Value.slice (some { block := w2.heap.size, off := 0 }) 1 1, Value.func (Fn.func 71) #[] #[Value.pointer (some { block := Bs, off := 0 })], Value.func (Fn.func 71) #[] #[Value.pointer (some { block := Bs, off := 0 })], Value.bool false, Value.func (Fn.func 71) #[] #[Value.pointer (some { block := Bs, off := 0 })], Value.int .i64 (x : Int), Value.int .u64 (bitAt 6 x : Nat), undef, undef, undef, undef, undef, undef, undef, undef, undef, undef, undef, undef, undef, undef, undef, undef, undef, undef, undef, undef, undef, undef, undef, undef, undef, undef, undef, undef, undef, undef, undef, undef, undef, undef, undef, undef, undef, undef, undef, undef, undef, undef], defers := [] }) ?assign ?body ?done ?stop
  case assign =>
    intro l x W K hK
    gi_wp2
    exact hK
  case body =>
    rintro l pre x W ⟨⟨hc, hf⟩, hB⟩ hlen
    have hw : wrap64 ((pre.length : Int) + 1) = ((pre ++ [x]).length : Int) := by
      rw [IntWalk.wrap64_in _ (by rw [bits6] at hlen; omega)]; simp
    gi_wp2
    refine ⟨KeepsOthers.setCell _ _ _, (Below.refl w3.heap.size W).setCell (p := ⟨w3.heap.size, 0, none⟩) (Nat.le_refl _) _, ⟨?_, by rw [World.frozen?_setCell]; exact hf⟩, hB.setCell (p := ⟨w3.heap.size, 0, none⟩) (Nat.le_refl _) _⟩
    have e : ((pre ++ [x]).length : Int) = (pre.length : Int) + 1 := by simp
    rw [e]
    exact World.cell?_setCell_same' _ _ _ (by rw [hc]; rfl)
  case done =>
    rintro D ys W hD rfl ⟨⟨hc, hf⟩, hB⟩ hK
    rw [downTo_length, bits6] at hc
    have hw2 : Below w2.heap.size w2 W := hb3.trans (hB.mono hb3.size)
    have hw1 : Below w1.heap.size w1 W := hb2.trans (hw2.mono hb2.size)
    have hq' := hq.keep hw1
    have hr' := hr.keep hw1
    obtain ⟨bq, oq, rfl⟩ := hq.addr (by omega)
    have hq0 : W.cell? ⟨bq, oq, none⟩ = some (.int .u64 3) := hq'.cell 0 (by simp)
    have hcv := (hby.keep hw2).convert_at (fun p e => hby.spot p e (by have := hby.le; omega)) (P := Try.prog) 47 5 9 under_bytes under_u8 under_str
    have e : strOf [0, 0, 1, 0] = ⟨#[0, 0, 1, 0]⟩ := rfl
    rw [e] at hcv
    clear e
    gi_wp2_with (first
      | (refine ⟨trivial, ?_⟩; gi_at_call 36; refine (callsIn_wide.2 (cmp31 hq' hr')).mono ?_; rintro e w4 ⟨rfl, hb4⟩)
      | (refine ⟨trivial, ?_⟩; gi_at_call 28; refine (callsIn_wide.2 (bits8 w4)).mono ?_; rintro e w5 ⟨rfl, rfl⟩))
    have hK4 : (w4.alloc (Obj.cells #[Value.int .u64 8] 54)).heap[D]? = some (.deferred (some [])) :=
      ((hb4.alloc hb4.size (Obj.cells #[Value.int .u64 8] 54)).block D (Array.getElem?_eq_some_iff.1 hK).1).trans hK
    refine ⟨by simp, .inl ⟨_, _, rfl, run_takeDeferred hK4, ?_⟩⟩
    have hBw : Below w.heap.size w (w4.alloc (Obj.cells #[Value.int .u64 8] 54)) :=
      (hb1.trans (hw1.mono hb1.size)).trans ((hb4.alloc hb4.size _).mono (Nat.le_trans hb1.size hw1.size))
    have hD2 : w.heap.size ≤ D := by
      have h1 := hb1.size; have h2 := hb2.size; have h3 := hb3.size
      rw [World.size_alloc] at hD
      omega
    exact ⟨_, results_tmp rfl _ _ _, rfl, hBw.trans (belowK_b (w := w) (Nat.le_refl _) _ D _ _ hD2 hK4 rfl rfl)⟩
  case stop =>
    rintro D c pre W _ _ h _
    exact h.elim

end Go.Proofs.Ytaeamlldocbeeaa
