/- baileyref1: less: a multiple taken off, if it goes. -/
import Derived.Test.YtaeamlldocbeeaaRef8
namespace Go.Proofs.Ytaeamlldocbeeaa
open Go.RowKit Num

/-- nothing but two blocks may have turned -/
structure Only2 (w w' : World) (g1 g2 : Nat) : Prop where
  below : ∀ B, B ≤ g1 → B ≤ g2 → B ≤ w.heap.size → Below B w w'
  same : ∀ b, b < w.heap.size → b ≠ g1 → b ≠ g2 → w'.heap[b]? = w.heap[b]?
  size : w.heap.size ≤ w'.heap.size

theorem Only2.refl (w : World) (g1 g2 : Nat) : Only2 w w g1 g2 := ⟨fun B _ _ _ => Below.refl B w, fun _ _ _ _ => rfl, Nat.le_refl _⟩

theorem Only2.trans {w w' w'' : World} {g1 g2 : Nat} (h : Only2 w w' g1 g2) (k : Only2 w' w'' g1 g2) : Only2 w w'' g1 g2 :=
  ⟨fun B h1 h2 h3 => (h.below B h1 h2 h3).trans (k.below B h1 h2 (by have := h.size; omega)), fun b h1 h2 h3 => (k.same b (by have := h.size; omega) h2 h3).trans (h.same b h1 h2 h3), Nat.le_trans h.size k.size⟩

theorem Only2.set1 (w : World) (g1 g2 i : Nat) (v : Value) : Only2 w (w.setCell ⟨g1, i, none⟩ v) g1 g2 :=
  ⟨fun B h1 _ _ => (Below.refl B w).setCell (p := ⟨g1, i, none⟩) h1 v, fun b _ h2 _ => Below.heap_setCell w ⟨g1, i, none⟩ v b h2, by simp [World.setCell]⟩

theorem Only2.set2 (w : World) (g1 g2 i : Nat) (v : Value) : Only2 w (w.setCell ⟨g2, i, none⟩ v) g1 g2 :=
  ⟨fun B _ h1 _ => (Below.refl B w).setCell (p := ⟨g2, i, none⟩) h1 v, fun b _ _ h2 => Below.heap_setCell w ⟨g2, i, none⟩ v b h2, by simp [World.setCell]⟩

theorem Blk.only2 {w w' : World} {b g1 g2 : Nat} {k : IntKind} {T : TypeId} {xs : List Nat} (h : Blk w b k T xs) (ho : Only2 w w' g1 g2) (h1 : b ≠ g1) (h2 : b ≠ g2) : Blk w' b k T xs :=
  (ho.same b h.lt h1 h2).trans h

/-- copy of a slice into a row -/
theorem run_cp {P : Program} {w : World} (dT sT ty : TypeId) (elem : TypeId) (hu : P.underlying dT = some (.slice elem)) (hsz : (P.info? elem).map (·.size) = some 1)
    (g off dLen dCap : Nat) (sa : Option Addr) (sLen sCap : Nat)
    (k : IntKind) (us ys : List Nat) (hblk : Blk w g k elem us) (hsl : Sl k w sa sLen sCap ys) (hpos : 0 < sLen) (hlen : sLen ≤ dLen) (hfit : off + sLen ≤ us.length) :
    ∃ w', (Builtin.copy_ #[dT, sT] ty #[.slice (some ⟨g, off, none⟩) dLen dCap, .slice sa sLen sCap]).run P w = .ok (goInt sLen) w' ∧
      Blk w' g k elem (us.take off ++ (ys ++ us.drop (off + sLen))) ∧ (∀ g2, Only2 w w' g g2) := by
  obtain ⟨b, q, rfl⟩ := hsl.addr hpos
  have hys := hsl.len
  have hrun := run_copy_row (P := P) w dT sT ty elem g off dLen dCap ⟨b, q, none⟩ sLen sCap (U k us).toArray elem (U k ys) hu hsz hblk
    (by rw [U_length, hys]; exact (Nat.min_eq_left hlen).symm)
    (fun j v hj => by
      rw [Addr.add_lit]
      rw [U_get] at hj
      obtain ⟨y, hy, rfl⟩ := Option.map_eq_some_iff.1 hj
      obtain ⟨hj', rfl⟩ := List.getElem?_eq_some_iff.1 hy
      exact hsl.cell j hj')
    (by simp [U_length, hys]; exact hfit) (U_oneCell k ys)
  rw [U_length, hys] at hrun
  refine ⟨_, hrun, ?_, ?_⟩
  · have := setRow_heap w g (U k us).toArray ((U k us).toArray.toList.take off ++ U k ys ++ (U k us).toArray.toList.drop (off + sLen)).toArray elem (0, 0) hblk
    unfold Blk
    rw [this]
    simp [U, List.map_append, List.map_take, List.map_drop]
  · intro g2
    refine ⟨fun B h1 _ _ => below_setRow (Below.refl B w) h1 _, fun b' _ h1 _ => setRow_other w g b' _ (by omega), by simp [World.setRow]⟩

end Go.Proofs.Ytaeamlldocbeeaa
