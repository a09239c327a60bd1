/- The laws' frame: the arguments opened, what is common to all. -/
import Derived.Test.YtaeamlldocbeeaaDoorRows
import Derived.Test.YtaeamlldocbeeaaDoorCore
import Derived.ProofKit
import Derived.OpenShut
namespace Go.Proofs.YtaeamlldocbeeaaDoor
open Go.ChangeShapes Go.WideShapes Go.ChangeAt Go.RowKit Num

theorem own : ownKnob Tryd.prog.godebug = none := by kernel_rfl
theorem laidOut : laidOutB Tryd.prog = true := by kernel_rfl
theorem cellsW : Tryd.prog.cellsOf 47 = 1 := by kernel_rfl
theorem cells8 : Tryd.prog.cellsOf 5 = 1 := by kernel_rfl

theorem add_at (b o i : Nat) : (⟨b, o, none⟩ : Addr).add i = ⟨b, o + i, none⟩ := by
  unfold Addr.add; split <;> simp_all

/-- an argument that is a slice of numbers, nil or not -/
theorem opened {H : Type} {enc : TypeId × Value → H} {W : World} {a0 : Option Addr} {len cap : Nat} {d0 : DataW H} {p : List MemPlace} {t e : TypeId} {k : IntKind} (B : Nat)
    (ht : Tryd.prog.underlying t = some (.slice e)) (he : Tryd.prog.underlying e = some (.int k)) (hc : Tryd.prog.cellsOf e = 1)
    (hk : ∀ n : Int, (Lit.int k n).wf = true → 0 ≤ n ∧ n < (B : Int))
    (h0 : DataW.Trod enc Tryd.prog W 0 (fun _ => true) true t (.slice a0 len cap) d0 p) :
    ∃ xs : List Nat, Sl k W a0 len cap xs ∧ Dg B xs := by
  obtain ⟨fuel, hf⟩ := h0
  rcases open_ints ht he hc hf with ⟨hcs, hx⟩ | ⟨a, len', cap', zs, hcs, _, hl, hm, hz, hx, hcell, hwz⟩
  · simp [Value.cells] at hcs
    obtain ⟨rfl, rfl, rfl⟩ := hcs
    exact ⟨[], Sl.nilSl _ _, Dg.nil⟩
  · simp [Value.cells] at hcs
    obtain ⟨rfl, rfl, rfl⟩ := hcs
    simp only [if_true] at hz
    by_cases hc0 : cap = 0
    · subst hc0
      obtain rfl : len = 0 := by omega
      exact ⟨[], Sl.empty _ _ _, Dg.nil⟩
    · obtain ⟨b, off, spot⟩ := a
      have hspot : spot = none := by simpa [Addr.add] using World.cell?_spot (hcell 0 (by omega))
      subst hspot
      have hnn : ∀ x ∈ zs, ((x.toNat : Nat) : Int) = x := fun x hx => by have := hk x (hwz x hx); omega
      refine ⟨(zs.take len).map Int.toNat, ⟨by rw [List.length_map, List.length_take]; omega, hl, by unfold maxLen at hm; omega, fun h => by simp at h, fun q e _ => by simp at e; subst e; rfl, ?_⟩, ?_⟩
      · intro i hi
        rw [List.length_map, List.length_take] at hi
        refine ⟨b, off, rfl, ?_⟩
        have h := hcell i (by omega)
        rw [add_at] at h
        rw [h]
        have hi2 : i < zs.length := by omega
        simp only [List.getElem_map, List.getElem_take]
        rw [hnn _ (List.getElem_mem hi2)]
        simp [List.getD, hi2]
      · intro x hx
        obtain ⟨y, hy, rfl⟩ := List.mem_map.1 hx
        have := hk y (hwz y (List.mem_of_mem_take hy))
        omega

theorem wf_u64_lt (n : Int) (h : (Lit.int .u64 n).wf = true) : 0 ≤ n ∧ n < ((18446744073709551616 : Nat) : Int) := by
  simp [Lit.wf, IntKind.min, IntKind.max, IntKind.signed, IntKind.bits] at h
  omega

theorem wf_u8_lt (n : Int) (h : (Lit.int .u8 n).wf = true) : 0 ≤ n ∧ n < ((256 : Nat) : Int) := by
  simp [Lit.wf, IntKind.min, IntKind.max, IntKind.signed, IntKind.bits] at h
  omega

theorem wf_i64_in (n : Int) (h : (Lit.int .i64 n).wf = true) : -9223372036854775808 ≤ n ∧ n ≤ 9223372036854775807 := by
  simp [Lit.wf, IntKind.min, IntKind.max, IntKind.signed, IntKind.bits] at h
  omega

/-- an argument of type api.Nat -/
theorem openedNat {H : Type} {enc : TypeId × Value → H} {W : World} {a0 : Option Addr} {len cap : Nat} {d0 : DataW H} {p : List MemPlace}
    (h0 : DataW.Trod enc Tryd.prog W 0 (fun _ => true) true 31 (.slice a0 len cap) d0 p) : ∃ xs : List Nat, Sl .u64 W a0 len cap xs ∧ Dg 18446744073709551616 xs :=
  opened 18446744073709551616 Tryd.underlying31 Tryd.underlying47 cellsW wf_u64_lt h0

/-- an argument of type []byte -/
theorem openedBytes {H : Type} {enc : TypeId × Value → H} {W : World} {a0 : Option Addr} {len cap : Nat} {d0 : DataW H} {p : List MemPlace}
    (h0 : DataW.Trod enc Tryd.prog W 0 (fun _ => true) true 22 (.slice a0 len cap) d0 p) : ∃ xs : List Nat, Sl .u8 W a0 len cap xs ∧ Dg 256 xs :=
  opened 256 Tryd.underlying22 Tryd.underlying5 cells8 wf_u8_lt h0

end Go.Proofs.YtaeamlldocbeeaaDoor
