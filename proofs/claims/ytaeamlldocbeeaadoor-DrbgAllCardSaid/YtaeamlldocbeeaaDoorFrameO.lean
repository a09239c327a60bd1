/- A script of calls, opened. -/
import Derived.Test.YtaeamlldocbeeaaDoorFrame
import Derived.Test.YtaeamlldocbeeaaDoorHashV
import Derived.Deep.Slices
import Derived.Lib.SmallJoins
namespace Go.Proofs.YtaeamlldocbeeaaDoor
open Go.ChangeShapes Go.WideShapes Go.ChangeAt Go.RowKit Go.Deep Num

theorem cellsOp : Tryd.prog.cellsOf 33 = 4 := by kernel_rfl
theorem cellsI : Tryd.prog.cellsOf 3 = 1 := by kernel_rfl
theorem cellsB : Tryd.prog.cellsOf 22 = 1 := by kernel_rfl
theorem cellsN : Tryd.prog.cellsOf 31 = 1 := by kernel_rfl

/-- a field that is a slice of numbers -/
theorem openedV {H : Type} {enc : TypeId × Value → H} {W : World} {v : Value} {x : DataW H × List MemPlace} {t e : TypeId} {k : IntKind} {fuel : Nat} (B : Nat)
    (ht : Tryd.prog.underlying t = some (.slice e)) (he : Tryd.prog.underlying e = some (.int k)) (hc : Tryd.prog.cellsOf e = 1)
    (hk : ∀ n : Int, (Lit.int k n).wf = true → 0 ≤ n ∧ n < (B : Int))
    (h0 : DataW.trod enc Tryd.prog W 0 (fun _ => true) true fuel t [v] = some x) :
    ∃ (a : Option Addr) (n c : Nat) (xs : List Nat), v = .slice a n c ∧ Sl k W a n c xs ∧ Dg B xs := by
  rcases open_slice ht h0 with ⟨hcs, _⟩ | ⟨a, len, cap, m, n, D, Pl, hcs, _⟩
  · simp at hcs
    subst hcs
    exact ⟨none, 0, 0, [], rfl, Sl.nilSl _ _, Dg.nil⟩
  · simp at hcs
    subst hcs
    obtain ⟨d, ps⟩ := x
    obtain ⟨xs, h1, h2⟩ := opened B ht he hc hk (⟨fuel, h0⟩ : DataW.Trod enc Tryd.prog W 0 (fun _ => true) true t (.slice (some a) len cap) d ps)
    exact ⟨_, _, _, xs, rfl, h1, h2⟩

theorem openedI {H : Type} {enc : TypeId × Value → H} {W : World} {v : Value} {x : DataW H × List MemPlace} {fuel : Nat}
    (h0 : DataW.trod enc Tryd.prog W 0 (fun _ => true) true fuel 3 [v] = some x) : ∃ n : Int, v = .int .i64 n := by
  cases fuel with
  | zero => simp [DataW.trod] at h0
  | succ f =>
    simp only [DataW.trod, Tryd.underlying3] at h0
    cases v <;> simp at h0
    rename_i k n
    exact ⟨n, by rw [h0.1.1]⟩

theorem list4 {α : Type} {v : List α} (h : v.length = 4) : ∃ a b c d, v = [a, b, c, d] := by
  match v, h with
  | [a, b, c, d], _ => exact ⟨a, b, c, d, rfl⟩

set_option maxRecDepth 20000 in
theorem openedOps {H : Type} {enc : TypeId × Value → H} {W : World} {a0 : Option Addr} {len cap : Nat} {d0 : DataW H} {p : List MemPlace}
    (h0 : DataW.Trod enc Tryd.prog W 0 (fun _ => true) true 23 (.slice a0 len cap) d0 p) : OpsAt W a0 len := by
  obtain ⟨fuel, hf⟩ := h0
  rcases open_slice Tryd.underlying23 hf with ⟨hcs, _⟩ | ⟨a, len', cap', m, n, D, Pl, hcs, _, hl, hm, hmm, _, hx⟩
  · simp [Value.cells] at hcs
    obtain ⟨rfl, rfl, rfl⟩ := hcs
    exact ⟨by omega, fun i hi => by omega⟩
  · simp [Value.cells] at hcs
    obtain ⟨rfl, rfl, rfl⟩ := hcs
    simp only [if_true] at hmm
    subst hmm
    refine ⟨by unfold maxLen at hm; omega, fun i hi => ?_⟩
    obtain ⟨cs', h1, h2⟩ := hx i (by omega)
    rw [cellsOp] at h1
    obtain ⟨_, hlen, hcell⟩ := World.cells?_some h1
    obtain ⟨b, off, spot⟩ := a
    have e0 := hcell 0 (by omega)
    have e1 := hcell 1 (by omega)
    have e2 := hcell 2 (by omega)
    have e3 := hcell 3 (by omega)
    obtain ⟨ys, k, hk, _, _, hyl, hfl⟩ := DataW.trod_struct Tryd.underlying33 h2
    obtain ⟨v0, v1, v2, v3, rfl⟩ := list4 hlen
    have hyl4 : ys.length = 4 := by rw [hyl]; rfl
    obtain ⟨y0, y1, y2, y3, rfl⟩ := list4 hyl4
    clear hyl hyl4
    · have g0 := hfl 0 _ rfl
      have g1 := hfl 1 _ rfl
      have g2 := hfl 2 _ rfl
      have g3 := hfl 3 _ rfl
      simp [cellsI, cellsB, cellsN] at g0 g1 g2 g3
      obtain ⟨kd, rfl⟩ := openedI g0
      obtain ⟨nn, rfl⟩ := openedI g1
      obtain ⟨ba, bn, bc, bs, rfl, s2, q2⟩ := openedV 256 Tryd.underlying22 Tryd.underlying5 cells8 wf_u8_lt g2
      obtain ⟨ma, mn, mc, ms, rfl, s3, q3⟩ := openedV 18446744073709551616 Tryd.underlying31 Tryd.underlying47 cellsW wf_u64_lt g3
      have hspot : spot = none := by
        obtain ⟨cs0, f1, f2⟩ := hx 0 (by omega)
        rw [cellsOp] at f1
        obtain ⟨_, hlen0, hcell0⟩ := World.cells?_some f1
        have f0 := hcell0 0 (by omega)
        obtain ⟨u0, u1, u2, u3, rfl⟩ := list4 hlen0
        have := World.cell?_spot (show W.cell? _ = some u0 from f0)
        simpa [Addr.add] using this
      subst hspot
      simp only [add_at, Nat.add_zero, List.getElem?_cons_zero, List.getElem?_cons_succ] at e0 e1 e2 e3
      exact ⟨b, off, kd, nn, ba, bn, bc, bs, ma, mn, mc, ms, rfl, ⟨e0, e1, e2, e3, s2, q2, s3, q3⟩⟩

end Go.Proofs.YtaeamlldocbeeaaDoor
