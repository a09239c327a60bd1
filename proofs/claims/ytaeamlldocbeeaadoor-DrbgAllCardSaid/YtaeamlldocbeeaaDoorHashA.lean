/- The words of SHA-256: what the two programs compute on 32 bits. -/
import Derived.Test.YtaeamlldocbeeaaDoorNm2
import Derived.Laws.Bits64
import Derived.Shelf.Spec.TrailingZeros
import Derived.BigQuiet
namespace Go.Proofs.YtaeamlldocbeeaaDoor
open Go.RowKit Go.Shelf Num

def xor32 (a b : Nat) : Nat := (bits .xor .u32 (a : Int) (b : Int)).toNat
def and32 (a b : Nat) : Nat := (bits .and .u32 (a : Int) (b : Int)).toNat
def or32 (a b : Nat) : Nat := (bits .or .u32 (a : Int) (b : Int)).toNat
def add32 (a b : Nat) : Nat := (a + b) % 4294967296

theorem wrap_u32 (n : Int) : IntKind.u32.wrap n = n % 4294967296 := by simp [IntKind.wrap, IntKind.bits, IntKind.signed]
theorem wrap_u8 (n : Int) : IntKind.u8.wrap n = n % 256 := by simp [IntKind.wrap, IntKind.bits, IntKind.signed]

theorem xor32_eq (a b : Nat) : bits .xor .u32 (a : Int) (b : Int) = ((xor32 a b : Nat) : Int) := by
  have : bits .xor .u32 (a : Int) (b : Int) = IntKind.u32.wrap ((BitVec.ofInt 32 (a : Int) ^^^ BitVec.ofInt 32 (b : Int)).toNat : Int) := rfl
  unfold xor32
  rw [this, wrap_u32]
  omega

theorem and32_eq (a b : Nat) : bits .and .u32 (a : Int) (b : Int) = ((and32 a b : Nat) : Int) := by
  have : bits .and .u32 (a : Int) (b : Int) = IntKind.u32.wrap ((BitVec.ofInt 32 (a : Int) &&& BitVec.ofInt 32 (b : Int)).toNat : Int) := rfl
  unfold and32
  rw [this, wrap_u32]
  omega

theorem or32_eq (a b : Nat) : bits .or .u32 (a : Int) (b : Int) = ((or32 a b : Nat) : Int) := by
  have : bits .or .u32 (a : Int) (b : Int) = IntKind.u32.wrap ((BitVec.ofInt 32 (a : Int) ||| BitVec.ofInt 32 (b : Int)).toNat : Int) := rfl
  unfold or32
  rw [this, wrap_u32]
  omega

theorem or32_comm (a b : Nat) : or32 a b = or32 b a := by
  have h : ∀ a b : Nat, bits .or .u32 (a : Int) (b : Int) = IntKind.u32.wrap ((BitVec.ofInt 32 (a : Int) ||| BitVec.ofInt 32 (b : Int)).toNat : Int) := fun _ _ => rfl
  unfold or32
  rw [h, h, BitVec.or_comm]

theorem add32_eq (a b : Nat) : ((a : Int) + (b : Int)) % 4294967296 = ((add32 a b : Nat) : Int) := by
  unfold add32
  omega

theorem add32_lt (a b : Nat) : add32 a b < 4294967296 := Nat.mod_lt _ (by omega)

theorem belowN {B : Nat} {a w : World} (h : Below B a w) (n : Nat) : Below B a (w.drewN n) := ⟨h.os, h.tape, h.output, h.size, h.block⟩

theorem below_grown {A C : World} (h : Below A.heap.size A C) (r : Option Nat) : A.grownBy C r := ⟨h.os, h.tape, h.output, h.size, fun i hi _ => h.block i hi⟩

theorem grown_drew {A C : World} {r : Option Nat} (h : A.grownBy C r) : A.grownBy C.drew r := ⟨h.os, h.tape, h.output, h.size, h.block⟩

/-- a new block of numbers -/
theorem newNums (w : World) (k : IntKind) (T : TypeId) (xs : List Nat) : ∃ w1 b, w1 = w.alloc (Obj.cells (U k xs).toArray T) ∧ b = w.heap.size ∧ Blk w1 b k T xs ∧ Below w.heap.size w w1 ∧ w1.heap.size = b + 1 :=
  ⟨_, _, rfl, rfl, heap_alloc_new _ _, below_alloc _ (Nat.le_refl _), World.size_alloc _ _⟩

/-- turned to the right: p = 2 ^ n, q = 2 ^ (32 - n) -/
def rotr (x p q : Nat) : Nat := or32 (x / p) (x * q % 4294967296)

/-- four bytes as a number -/
def be32 (x0 x1 x2 x3 : Nat) : Nat := or32 (or32 (or32 (x0 * 16777216) (x1 * 65536)) (x2 * 256)) x3

theorem rotr_eq (x p q : Nat) : bits .or .u32 ((x : Int) / (p : Int)) ((x : Int) * (q : Int) % 4294967296) = ((rotr x p q : Nat) : Int) := by
  have := or32_eq (x / p) (x * q % 4294967296)
  rw [Int.natCast_ediv, Int.natCast_emod, Int.natCast_mul] at this
  exact this

theorem rotl_eq (x p q : Nat) : bits .or .u32 ((x : Int) * (q : Int) % 4294967296) ((x : Int) / (p : Int)) = ((rotr x p q : Nat) : Int) := by
  have := or32_eq (x * q % 4294967296) (x / p)
  rw [Int.natCast_ediv, Int.natCast_emod, Int.natCast_mul, or32_comm] at this
  exact this

set_option maxHeartbeats 1000000 in
theorem get32_any {b o n c x0 x1 x2 x3 : Nat} {w : World} (hn : 4 ≤ n) (hc0 : w.cell? ⟨b, o, none⟩ = some (.int .u8 (x0 : Int))) (hc1 : w.cell? ⟨b, o + 1, none⟩ = some (.int .u8 (x1 : Int)))
    (hc2 : w.cell? ⟨b, o + 2, none⟩ = some (.int .u8 (x2 : Int))) (hc3 : w.cell? ⟨b, o + 3, none⟩ = some (.int .u8 (x3 : Int))) (hx0 : x0 < 256) (hx1 : x1 < 256) (hx2 : x2 < 256) (hx3 : x3 < 256) :
    Calls Tryd.prog 93 #[.slice (some ⟨b, o, none⟩) n c] w (GivesInt .u32 w (be32 x0 x1 x2 x3)) := by
  have i0 : (0 : Int) < (n : Int) := by omega
  have i1 : (1 : Int) < (n : Int) := by omega
  have i2 : (2 : Int) < (n : Int) := by omega
  have i3 : (3 : Int) < (n : Int) := by omega
  go_enter Tryd.func93, Tryd.ntmps93
  go_wp2
  go_quiet (fail)
  go_wp2
  go_ret
  refine ⟨?_, belowN (Below.refl _ w) _⟩
  unfold be32
  rw [← or32_eq, ← or32_eq, ← or32_eq, Int.natCast_mul, Int.natCast_mul, Int.natCast_mul]
  rfl

set_option maxHeartbeats 1000000 in
theorem word_any {b o n c x0 x1 x2 x3 : Nat} {w : World} (hn : 4 ≤ n) (hc0 : w.cell? ⟨b, o, none⟩ = some (.int .u8 (x0 : Int))) (hc1 : w.cell? ⟨b, o + 1, none⟩ = some (.int .u8 (x1 : Int)))
    (hc2 : w.cell? ⟨b, o + 2, none⟩ = some (.int .u8 (x2 : Int))) (hc3 : w.cell? ⟨b, o + 3, none⟩ = some (.int .u8 (x3 : Int))) (hx0 : x0 < 256) (hx1 : x1 < 256) (hx2 : x2 < 256) (hx3 : x3 < 256) :
    Calls Tryd.prog 82 #[.slice (some ⟨b, o, none⟩) n c] w (GivesInt .u32 w (be32 x0 x1 x2 x3)) := by
  have i0 : (0 : Int) < (n : Int) := by omega
  have i1 : (1 : Int) < (n : Int) := by omega
  have i2 : (2 : Int) < (n : Int) := by omega
  have i3 : (3 : Int) < (n : Int) := by omega
  go_enter Tryd.func82, Tryd.ntmps82
  go_wp2
  go_quiet (fail)
  go_wp2
  go_ret
  refine ⟨?_, belowN (Below.refl _ w) _⟩
  unfold be32
  rw [← or32_eq, ← or32_eq, ← or32_eq, Int.natCast_mul, Int.natCast_mul, Int.natCast_mul]
  rfl

theorem right7_any {x : Nat} {w : World} : Calls Tryd.prog 86 #[.int .u32 (x : Int), .int .u64 7] w (RetN .u32 w (rotr x 128 33554432)) := by
  go_enter Tryd.func86, Tryd.ntmps86
  go_wp2
  go_ret
  exact ⟨by rw [← rotr_eq]; rfl, rfl⟩

theorem rot7_any {x : Nat} {w : World} : Calls Tryd.prog 94 #[.int .u32 (x : Int), .int .i64 (-7)] w (RetN .u32 w (rotr x 128 33554432)) := by
  have e1 : IntKind.u64.wrap (-7) = 18446744073709551609 := by decide
  have e2 : bits .and .u64 18446744073709551609 31 = 25 := by decide
  go_enter Tryd.func94, Tryd.ntmps94
  go_wp2
  go_ret
  exact ⟨by rw [← rotl_eq]; rfl, rfl⟩

theorem right18_any {x : Nat} {w : World} : Calls Tryd.prog 86 #[.int .u32 (x : Int), .int .u64 18] w (RetN .u32 w (rotr x 262144 16384)) := by
  go_enter Tryd.func86, Tryd.ntmps86
  go_wp2
  go_ret
  exact ⟨by rw [← rotr_eq]; rfl, rfl⟩

theorem rot18_any {x : Nat} {w : World} : Calls Tryd.prog 94 #[.int .u32 (x : Int), .int .i64 (-18)] w (RetN .u32 w (rotr x 262144 16384)) := by
  have e1 : IntKind.u64.wrap (-18) = 18446744073709551598 := by decide
  have e2 : bits .and .u64 18446744073709551598 31 = 14 := by decide
  go_enter Tryd.func94, Tryd.ntmps94
  go_wp2
  go_ret
  exact ⟨by rw [← rotl_eq]; rfl, rfl⟩

theorem right17_any {x : Nat} {w : World} : Calls Tryd.prog 86 #[.int .u32 (x : Int), .int .u64 17] w (RetN .u32 w (rotr x 131072 32768)) := by
  go_enter Tryd.func86, Tryd.ntmps86
  go_wp2
  go_ret
  exact ⟨by rw [← rotr_eq]; rfl, rfl⟩

theorem rot17_any {x : Nat} {w : World} : Calls Tryd.prog 94 #[.int .u32 (x : Int), .int .i64 (-17)] w (RetN .u32 w (rotr x 131072 32768)) := by
  have e1 : IntKind.u64.wrap (-17) = 18446744073709551599 := by decide
  have e2 : bits .and .u64 18446744073709551599 31 = 15 := by decide
  go_enter Tryd.func94, Tryd.ntmps94
  go_wp2
  go_ret
  exact ⟨by rw [← rotl_eq]; rfl, rfl⟩

theorem right19_any {x : Nat} {w : World} : Calls Tryd.prog 86 #[.int .u32 (x : Int), .int .u64 19] w (RetN .u32 w (rotr x 524288 8192)) := by
  go_enter Tryd.func86, Tryd.ntmps86
  go_wp2
  go_ret
  exact ⟨by rw [← rotr_eq]; rfl, rfl⟩

theorem rot19_any {x : Nat} {w : World} : Calls Tryd.prog 94 #[.int .u32 (x : Int), .int .i64 (-19)] w (RetN .u32 w (rotr x 524288 8192)) := by
  have e1 : IntKind.u64.wrap (-19) = 18446744073709551597 := by decide
  have e2 : bits .and .u64 18446744073709551597 31 = 13 := by decide
  go_enter Tryd.func94, Tryd.ntmps94
  go_wp2
  go_ret
  exact ⟨by rw [← rotl_eq]; rfl, rfl⟩

theorem right6_any {x : Nat} {w : World} : Calls Tryd.prog 86 #[.int .u32 (x : Int), .int .u64 6] w (RetN .u32 w (rotr x 64 67108864)) := by
  go_enter Tryd.func86, Tryd.ntmps86
  go_wp2
  go_ret
  exact ⟨by rw [← rotr_eq]; rfl, rfl⟩

theorem rot6_any {x : Nat} {w : World} : Calls Tryd.prog 94 #[.int .u32 (x : Int), .int .i64 (-6)] w (RetN .u32 w (rotr x 64 67108864)) := by
  have e1 : IntKind.u64.wrap (-6) = 18446744073709551610 := by decide
  have e2 : bits .and .u64 18446744073709551610 31 = 26 := by decide
  go_enter Tryd.func94, Tryd.ntmps94
  go_wp2
  go_ret
  exact ⟨by rw [← rotl_eq]; rfl, rfl⟩

theorem right11_any {x : Nat} {w : World} : Calls Tryd.prog 86 #[.int .u32 (x : Int), .int .u64 11] w (RetN .u32 w (rotr x 2048 2097152)) := by
  go_enter Tryd.func86, Tryd.ntmps86
  go_wp2
  go_ret
  exact ⟨by rw [← rotr_eq]; rfl, rfl⟩

theorem rot11_any {x : Nat} {w : World} : Calls Tryd.prog 94 #[.int .u32 (x : Int), .int .i64 (-11)] w (RetN .u32 w (rotr x 2048 2097152)) := by
  have e1 : IntKind.u64.wrap (-11) = 18446744073709551605 := by decide
  have e2 : bits .and .u64 18446744073709551605 31 = 21 := by decide
  go_enter Tryd.func94, Tryd.ntmps94
  go_wp2
  go_ret
  exact ⟨by rw [← rotl_eq]; rfl, rfl⟩

theorem right25_any {x : Nat} {w : World} : Calls Tryd.prog 86 #[.int .u32 (x : Int), .int .u64 25] w (RetN .u32 w (rotr x 33554432 128)) := by
  go_enter Tryd.func86, Tryd.ntmps86
  go_wp2
  go_ret
  exact ⟨by rw [← rotr_eq]; rfl, rfl⟩

theorem rot25_any {x : Nat} {w : World} : Calls Tryd.prog 94 #[.int .u32 (x : Int), .int .i64 (-25)] w (RetN .u32 w (rotr x 33554432 128)) := by
  have e1 : IntKind.u64.wrap (-25) = 18446744073709551591 := by decide
  have e2 : bits .and .u64 18446744073709551591 31 = 7 := by decide
  go_enter Tryd.func94, Tryd.ntmps94
  go_wp2
  go_ret
  exact ⟨by rw [← rotl_eq]; rfl, rfl⟩

theorem right2_any {x : Nat} {w : World} : Calls Tryd.prog 86 #[.int .u32 (x : Int), .int .u64 2] w (RetN .u32 w (rotr x 4 1073741824)) := by
  go_enter Tryd.func86, Tryd.ntmps86
  go_wp2
  go_ret
  exact ⟨by rw [← rotr_eq]; rfl, rfl⟩

theorem rot2_any {x : Nat} {w : World} : Calls Tryd.prog 94 #[.int .u32 (x : Int), .int .i64 (-2)] w (RetN .u32 w (rotr x 4 1073741824)) := by
  have e1 : IntKind.u64.wrap (-2) = 18446744073709551614 := by decide
  have e2 : bits .and .u64 18446744073709551614 31 = 30 := by decide
  go_enter Tryd.func94, Tryd.ntmps94
  go_wp2
  go_ret
  exact ⟨by rw [← rotl_eq]; rfl, rfl⟩

theorem right13_any {x : Nat} {w : World} : Calls Tryd.prog 86 #[.int .u32 (x : Int), .int .u64 13] w (RetN .u32 w (rotr x 8192 524288)) := by
  go_enter Tryd.func86, Tryd.ntmps86
  go_wp2
  go_ret
  exact ⟨by rw [← rotr_eq]; rfl, rfl⟩

theorem rot13_any {x : Nat} {w : World} : Calls Tryd.prog 94 #[.int .u32 (x : Int), .int .i64 (-13)] w (RetN .u32 w (rotr x 8192 524288)) := by
  have e1 : IntKind.u64.wrap (-13) = 18446744073709551603 := by decide
  have e2 : bits .and .u64 18446744073709551603 31 = 19 := by decide
  go_enter Tryd.func94, Tryd.ntmps94
  go_wp2
  go_ret
  exact ⟨by rw [← rotl_eq]; rfl, rfl⟩

theorem right22_any {x : Nat} {w : World} : Calls Tryd.prog 86 #[.int .u32 (x : Int), .int .u64 22] w (RetN .u32 w (rotr x 4194304 1024)) := by
  go_enter Tryd.func86, Tryd.ntmps86
  go_wp2
  go_ret
  exact ⟨by rw [← rotr_eq]; rfl, rfl⟩

theorem rot22_any {x : Nat} {w : World} : Calls Tryd.prog 94 #[.int .u32 (x : Int), .int .i64 (-22)] w (RetN .u32 w (rotr x 4194304 1024)) := by
  have e1 : IntKind.u64.wrap (-22) = 18446744073709551594 := by decide
  have e2 : bits .and .u64 18446744073709551594 31 = 10 := by decide
  go_enter Tryd.func94, Tryd.ntmps94
  go_wp2
  go_ret
  exact ⟨by rw [← rotl_eq]; rfl, rfl⟩

end Go.Proofs.YtaeamlldocbeeaaDoor
