/-
  DERIVED. GIVEN WITH THE SEED: THE CARDS: each row of YtaeamlldocbeeaaDoorRows.lean that lists a variable, with what it lists TIED to the program's text (the seventh form; the later family's looks); each row that meets fmt, with fmt's text TOLD by the authors' own Lean function (tested against real Go, not proved from fmt's source: count such statements apart). THE CARD IS WHAT COUNTS. Prove the row's statement (the work); the ties are given (YtaeamlldocbeeaaDoorTie.lean); close each card by the builder's one call (the guide's Derived/Test/ToyasCard.lean, 'card_holds'). Laid BY PROGRAM, IN A SANDBOX (cutbox-door.mjs). By AI agents, Wed Nov 11 2026. No macro, syntax, notation, axiom, sorry.
-/
import Derived.Test.YtaeamlldocbeeaaDoorRows
import GoSem.ClaimSeven
namespace Go.Proofs.YtaeamlldocbeeaaDoor
namespace Rows

/-- THE TIED CARD OF 'baileylaw4.DrbgAll'. -/
def drbgAllCard : Claim7 := { stood := { row := drbgAllRow, standIns := [], harness := (true, "938b4b8d69ef6ac0a97a1cd51b658887c45c7624c37e2a5f23786caee5876075"), looks := false }, kinds := [], alts := [], laidByText := true, laidKinds := [.data], laidTests := true, laidLooks := .later }
def DrbgAllCardSaid : Prop := Claim7.holds Tryd.pinned (.plain (OpenSpec.ofChange drbgAllSpec)) drbgAllCard

/-- THE SECOND FORM's CARD OF 'baileylaw4.DrbgAll'. -/
def drbgAllUptoCard : Claim7 := { stood := { row := drbgAllUptoRow, standIns := [], harness := (true, "938b4b8d69ef6ac0a97a1cd51b658887c45c7624c37e2a5f23786caee5876075"), looks := false }, kinds := [], alts := [], laidByText := true, laidKinds := [.data], laidTests := true, laidLooks := .later }
def DrbgAllUptoCardSaid : Prop := Claim7.holds Tryd.pinned (.plain (OpenSpec.upto drbgAllSpec)) drbgAllUptoCard
end Rows
end Go.Proofs.YtaeamlldocbeeaaDoor
