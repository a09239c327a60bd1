/- baileylaw1: begun answers true. -/
import Derived.Laws.BytesArg
import Derived.Test.YtaeamlldocbeeaaDoorEach1
import Derived.Test.YtaeamlldocbeeaaDoorLimbD
import Derived.Test.YtaeamlldocbeeaaDoorLimbB
namespace Go.Proofs.YtaeamlldocbeeaaDoor
open Go.RowKit Go.Shelf Num

attribute [local go_sem] Oper.semAt_some

def strOf (bs : List Nat) : ByteArray := strOfNums (bs.map fun (x : Nat) => (x : Int))

theorem Sl.convert_at {P : Program} {w : World} {a : Option Addr} {n c : Nat} {bs : List Nat} (h : Sl .u8 w a n c bs) (hc : ∀ p, a = some p → p.spot = none) (src e dst : TypeId) (hs : P.underlying src = some (.slice e)) (he : P.underlying e = some (.int .u8))
    (hd : P.underlying dst = some .string) : (convert src dst (.slice a n c)).run P w = .ok (.string (strOf bs)) w := by
  cases a with
  | none =>
    obtain rfl : c = 0 := h.nil rfl
    obtain rfl : n = 0 := by have := h.le; omega
    obtain rfl : bs = [] := List.eq_nil_of_length_eq_zero h.len
    exact run_convert_bytes_nil w src e hs he 0 0 dst hd
  | some p =>
    obtain ⟨b, o, s⟩ := p
    have := hc _ rfl
    simp at this
    subst this
    refine run_convert_bytes_arg w src e hs he b o n c _ (by rw [List.length_map]; exact h.len) (fun i hi => ?_) dst hd
    have hl := h.len
    rw [h.cell i (by omega)]
    simp [List.getD, hl, hi]

theorem run_eql_func_nil {P : Program} (w : World) (t : TypeId) (A1 A2 : Array TypeId) (v : Bool) (f : Fn) (ts lb : Array Value) (h : P.underlying t = some (.func A1 A2 v)) :
    (binOp .eql t (.func f ts lb) .nilFunc).run P w = .ok (.bool false) w := by
  have h1 : ∀ d, (Op.equalIn (d + 1) t (.func f ts lb) .nilFunc).run P w = .ok false w := by
    intro d
    simp [Op.equalIn, run_underlying h]
  simp only [binOp]
  simp [Op.equal, Op.maxDepth, h1 9999]

theorem under_u8 : Tryd.prog.underlying 5 = some (.int .u8) := by kernel_rfl

theorem under_str : Tryd.prog.underlying 9 = some .string := by kernel_rfl

theorem dig_one (x : Nat) (h : x < 18446744073709551616) (h0 : x ≠ 0) : dig 18446744073709551616 x = [x] := dig_lt_base _ (by omega) h h0

theorem one_val (x : Nat) : val 18446744073709551616 [x] = x := val_single _ _

theorem one_dg (x : Nat) (h : x < 18446744073709551616) : Dg 18446744073709551616 [x] := Dg.cons h Dg.nil

theorem quo72 (w : World) : Calls Tryd.prog 25 #[.slice (some ⟨w.heap.size, 0, none⟩) 1 1, .slice (some ⟨w.heap.size + 1, 0, none⟩) 1 1]
    ((w.alloc (Obj.cells #[.int .u64 7] 47)).alloc (Obj.cells #[.int .u64 2] 47)) fun e w' => ∃ a1 c1 a2 c2, e = .returned (.tuple #[.slice a1 1 c1, .slice a2 1 c2, .bool true]) ∧
      Sl .u64 w' a1 1 c1 [3] ∧ Sl .u64 w' a2 1 c2 [1] ∧ Below w.heap.size w w' := by
  have h1 := ((Blk.new1 w .u64 47 7).alloc (Obj.cells #[.int .u64 2] 47)).sl 1 rfl (by omega)
  have h2 := (Blk.new1 (w.alloc (Obj.cells #[.int .u64 7] 47)) .u64 47 2).sl 1 rfl (by omega)
  rw [World.size_alloc] at h2
  have hb : Below w.heap.size w ((w.alloc (Obj.cells #[.int .u64 7] 47)).alloc (Obj.cells #[.int .u64 2] 47)) :=
    (below_alloc _ (Nat.le_refl _)).alloc (by rw [World.size_alloc]; omega) _
  refine (quo_any h1 h2 (one_dg 7 (by omega)) (one_dg 2 (by omega)) (by omega) (by rw [one_val]; omega)).mono ?_
  rintro e w' ⟨a1, n1, c1, a2, n2, c2, rfl, ho1, ho2, hb'⟩
  rw [one_val, one_val, show 7 / 2 = 3 from rfl, dig_one 3 (by omega) (by omega)] at ho1
  rw [one_val, one_val, show 7 % 2 = 1 from rfl, dig_one 1 (by omega) (by omega)] at ho2
  obtain rfl : n1 = 1 := ho1.len.symm
  obtain rfl : n2 = 1 := ho2.len.symm
  exact ⟨a1, c1, a2, c2, rfl, ho1.sl, ho2.sl, hb.trans (hb'.mono hb.size)⟩

theorem bits8 (w : World) : Calls Tryd.prog 24 #[.slice (some ⟨w.heap.size, 0, none⟩) 1 1]
    (w.alloc (Obj.cells #[.int .u64 8] 47)) fun e w' => e = .returned (.int .i64 4) ∧ w' = w.alloc (Obj.cells #[.int .u64 8] 47) := by
  have h1 := (Blk.new1 w .u64 47 8).sl 1 rfl (by omega)
  refine (bits_any h1 (one_dg 8 (by omega)) (by omega)).mono ?_
  rintro e w' ⟨rfl, rfl⟩
  rw [one_val]
  have e1 : bitLen 8 = 4 := by
    have := (bitLen_le 8 4).2 (by omega)
    have := (lt_bitLen 8 3).2 (by omega)
    omega
  rw [e1]
  exact ⟨rfl, rfl⟩

theorem bits6 : bitLen 6 = 3 := by
  have := (bitLen_le 6 3).2 (by omega)
  have := (lt_bitLen 6 2).2 (by omega)
  omega

theorem cmp31 {a1 a2 : Option Addr} {c1 c2 : Nat} {w : World} (h1 : Sl .u64 w a1 1 c1 [3]) (h2 : Sl .u64 w a2 1 c2 [1]) :
    Calls Tryd.prog 40 #[.slice a1 1 c1, .slice a2 1 c2] w fun e w' => e = .returned (.int .i64 1) ∧ Below w.heap.size w w' := by
  refine (cmp_any h1 h2 (one_dg 3 (by omega)) (one_dg 1 (by omega)) (by omega)).mono ?_
  rintro e w' ⟨rfl, hb⟩
  rw [one_val, one_val]
  exact ⟨rfl, hb⟩

end Go.Proofs.YtaeamlldocbeeaaDoor
