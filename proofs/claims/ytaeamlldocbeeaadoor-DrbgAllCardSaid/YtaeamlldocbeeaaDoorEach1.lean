/- limb: Each and its closure. -/
import Derived.RangeFuncNested
import Derived.RangeFuncBound
import Derived.RangeFuncCalls
import Derived.RangeFuncLeaves
import Derived.Shelf.Abstract
import Derived.Shelf.RegionOpen
import Derived.WalkKit
import Derived.OwnWalkIn
import Derived.TacticsInMore
import Derived.LoopNIn
import Derived.LoopIn
import Derived.Test.YtaeamlldocbeeaaDoorLimbB
namespace Go.Proofs.YtaeamlldocbeeaaDoor
open Go.RowKit Go.Shelf Num

theorem Own.setOther {k : IntKind} {T : TypeId} {B : Nat} {w : World} {a : Option Addr} {n c : Nat} {xs : List Nat} (h : Own k T B w a n c xs) {b : Nat} (hb : b < B) (i : Nat) (x : Value) :
    Own k T B (w.setCell ⟨b, i, none⟩ x) a n c xs := by
  refine ⟨h.len, ?_⟩
  rcases h.row with h | ⟨b', ys, e, hB, hl, hc, hk⟩
  · exact .inl h
  · exact .inr ⟨b', ys, e, hB, hl, hc, hk.set_other (by omega) i x⟩

/-- a box holds a slice that reads xs -/
def BoxSl (w : World) (Bs : Nat) (v : Nat) : Prop :=
  ∃ a n c, w.cell? ⟨Bs, 0, none⟩ = some (.slice a n c) ∧ n ≤ 1099511627776 ∧ Sl .u64 w a n c (dig 18446744073709551616 v)

/-- the values that Each's closure hands on: a place and the bit there -/
abbrev bitEnc (v : Nat) (k : Nat) : Array Value := #[.int .i64 (k : Int), .int .u64 (bitAt v k : Nat)]

/-- the places from the highest on, j of them -/
def downTo (n j : Nat) : List Nat := (List.range j).map fun i => n - 1 - i

theorem downTo_succ (n j : Nat) : downTo n (j + 1) = downTo n j ++ [n - 1 - j] := by simp [downTo, List.range_succ]

theorem downTo_length (n j : Nat) : (downTo n j).length = j := by simp [downTo]

theorem BoxSl.below {w w' : World} {Bs v : Nat} (h : BoxSl w Bs v) (hb : Below w.heap.size w w') : BoxSl w' Bs v := by
  obtain ⟨a, n, c, hc, hn, hs⟩ := h
  exact ⟨a, n, c, (hb.cell (World.block_lt_of_cell? _ _ hc)).trans hc, hn, hs.keep hb⟩

attribute [local go_sem] Oper.semAt_some

end Go.Proofs.YtaeamlldocbeeaaDoor
