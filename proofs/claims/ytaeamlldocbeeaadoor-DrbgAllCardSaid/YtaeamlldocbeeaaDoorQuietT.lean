/- A region that draws its order, reads and calls quietly and ends in one forced tail: the quick walk of its head. -/
import Derived.Test.YtaeamlldocbeeaaDoorCore
import Derived.BigQuiet
import Derived.StillTailTactics
namespace Go.Proofs.YtaeamlldocbeeaaDoor
open Go.RowKit

theorem wpStill_of_quiet {P : Program} {ops : Array Oper} {w0 : World} {Q : Act → Prop} : ∀ {l : List Oper} {a : Act}, wpQuiet P ops (fun w' => w' = w0) Q l a → wpStill P ops w0 Q l a
  | [], _, h => h
  | o :: l, a, h => by
    unfold wpQuiet at h
    unfold wpStill
    split at h
    · rename_i hw
      rw [if_pos hw]
      obtain ⟨v, h1, h2⟩ := h
      have h3 := h1 w0 rfl
      have h4 := wpStill_of_quiet h2
      unfold Oper.quietAt at h3
      unfold Oper.still
      generalize (execOp a.eval o).run P w0 = r at *
      cases r with
      | halt x w' => simp [Oper.quietUpon] at h3
      | ok nx w' =>
        cases nx with
        | value u =>
          simp only [Oper.quietUpon] at h3
          obtain ⟨rfl, rfl⟩ := h3
          exact ⟨rfl, h4⟩
        | skip =>
          simp only [Oper.quietUpon] at h3
          obtain ⟨rfl, rfl⟩ := h3
          exact ⟨rfl, h4⟩
        | enter f args =>
          simp only [Oper.quietUpon] at h3
          obtain ⟨rfl, h5⟩ := h3
          exact ⟨rfl, v, h5, h4⟩
        | _ => simp [Oper.quietUpon] at h3
    · rename_i hw
      rw [if_neg hw]
      exact wpStill_of_quiet h

theorem wp_region_quiet_tail {P : Program} {id : Nat} {Q : Exit → Act → World → Prop} {a : Act} {w : World} {l : List Oper} (n : Nat) (hm : P.follows .mixedOrders = true) (hB : Region.lexTailB .any l.toArray n = true)
    (h : wpQuiet P l.toArray (fun w' => w' = w.drew) (fun a' => wpList P l.toArray Q (l.drop n) a' w.drew) (l.take n) a) : (Code.region id l.toArray true).wp P Q a w :=
  wp_region_still_tail n hm hB (wpStill_of_quiet h)

end Go.Proofs.YtaeamlldocbeeaaDoor
