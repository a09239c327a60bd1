/-
  No cell of these rows narrows 'for every input' (looked for: loops, veiled, ifaces, maps, wideKeys, modest, calm, conditions, laid).
  DERIVED. THE GIVEN ROWS OF THIS SEAT. 10 by the template 'for every input the law returns true; each argument reads behind the call as it read before'; 0 by the template 'total and deterministic' (their statements: YtaeamlldocbeeaaTotals.lean).
  GIVEN WITH THE SEED: the statements are not yours to turn. If you find one false, say at which input.
  Laid BY PROGRAM, IN A SANDBOX (cutbox-rows.mjs): the forced cells as the released guide's own fill.sh prints them over the translation 13e34d93b5e5ed78… (all of the seat's roots in one cut). By AI agents, Wed Nov 11 2026. No macro, syntax, notation, axiom, sorry.
-/
import Derived.Test.YtaeamlldocbeeaaChecked
import GoSem.Claim
import GoSem.ClaimJoined
import GoSem.ClaimMapViews
import Derived.JoinedTies
import Derived.KernelRfl
namespace Go.Proofs.Ytaeamlldocbeeaa
/- THE CELL 'sum', in the pinned program and in every row, IS THE sha256 OF THE DUMP (.gsa) THAT YtaeamlldocbeeaaProg.lean LOADS. Nothing in Lean hashes anything: it is a label: what it is worth is what the hold of that sum in a sandbox is worth. -/
noncomputable def Try.pinned : Pinned := { name := "ytaeamlldocbeeaa", sum := "13e34d93b5e5ed78bd79336bb0be2cff89bfd731be4c90694ea335c443fa7802", checked := Try.checked }
namespace Rows
def none {H : Type} : Left H := { results := [], args := [] }

/-- 'baileylaw1.LimbQuo': WHATEVER THE INPUT: true; the input reads as it did. -/
def limbQuoSpec : ChangeSpec := { name := "limbQuo", fn := fun _ => fun
  | [d1, d2] => { results := [.lit (.bool true)], args := [d1, d2] }
  | _ => none }
def limbQuoRow : OpenClaim := { program := "ytaeamlldocbeeaa", sum := "13e34d93b5e5ed78bd79336bb0be2cff89bfd731be4c90694ea335c443fa7802", func := "bailey/baileylaw1.LimbQuo", spec := "limbQuo", inPlace := ["math/bits.Add64", "math/bits.Sub64"], unfollowed := true, recurses := true, named := ["math/bits.divideError", "math/bits.overflowError"], apart := false }
def LimbQuoSaid : Prop := limbQuoRow.holds Try.pinned (OpenSpec.ofChange limbQuoSpec)

/-- ITS FALSE NEIGHBOUR: 'it returns false'. Refute it at one input. -/
def limbQuoWrong : ChangeSpec := { name := "limbQuo", fn := fun _ => fun
  | [d1, d2] => { results := [.lit (.bool false)], args := [d1, d2] }
  | _ => none }
def LimbQuoWrongFalsely : Prop := limbQuoRow.holds Try.pinned (OpenSpec.ofChange limbQuoWrong)

/-- 'baileylaw1.LimbShift': WHATEVER THE INPUT: true; the input reads as it did. -/
def limbShiftSpec : ChangeSpec := { name := "limbShift", fn := fun _ => fun
  | [d1, d2, d3, d4] => { results := [.lit (.bool true)], args := [d1, d2, d3, d4] }
  | _ => none }
def limbShiftRow : OpenClaim := { program := "ytaeamlldocbeeaa", sum := "13e34d93b5e5ed78bd79336bb0be2cff89bfd731be4c90694ea335c443fa7802", func := "bailey/baileylaw1.LimbShift", spec := "limbShift", inPlace := ["math/bits.Add64", "math/bits.Sub64"], unfollowed := true, recurses := true, named := ["math/bits.divideError", "math/bits.overflowError"], apart := false }
def LimbShiftSaid : Prop := limbShiftRow.holds Try.pinned (OpenSpec.ofChange limbShiftSpec)

/-- ITS FALSE NEIGHBOUR: 'it returns false'. Refute it at one input. -/
def limbShiftWrong : ChangeSpec := { name := "limbShift", fn := fun _ => fun
  | [d1, d2, d3, d4] => { results := [.lit (.bool false)], args := [d1, d2, d3, d4] }
  | _ => none }
def LimbShiftWrongFalsely : Prop := limbShiftRow.holds Try.pinned (OpenSpec.ofChange limbShiftWrong)

/-- 'baileylaw1.LimbBytes': WHATEVER THE INPUT: true; the input reads as it did. -/
def limbBytesSpec : ChangeSpec := { name := "limbBytes", fn := fun _ => fun
  | [d1, d2, d3] => { results := [.lit (.bool true)], args := [d1, d2, d3] }
  | _ => none }
def limbBytesRow : OpenClaim := { program := "ytaeamlldocbeeaa", sum := "13e34d93b5e5ed78bd79336bb0be2cff89bfd731be4c90694ea335c443fa7802", func := "bailey/baileylaw1.LimbBytes", spec := "limbBytes", inPlace := ["math/bits.Add64", "math/bits.Sub64"], unfollowed := true, recurses := true, named := ["math/bits.divideError", "math/bits.overflowError"], apart := false }
def LimbBytesSaid : Prop := limbBytesRow.holds Try.pinned (OpenSpec.ofChange limbBytesSpec)

/-- ITS FALSE NEIGHBOUR: 'it returns false'. Refute it at one input. -/
def limbBytesWrong : ChangeSpec := { name := "limbBytes", fn := fun _ => fun
  | [d1, d2, d3] => { results := [.lit (.bool false)], args := [d1, d2, d3] }
  | _ => none }
def LimbBytesWrongFalsely : Prop := limbBytesRow.holds Try.pinned (OpenSpec.ofChange limbBytesWrong)

/-- 'baileylaw1.LimbRing': WHATEVER THE INPUT: true; the input reads as it did. -/
def limbRingSpec : ChangeSpec := { name := "limbRing", fn := fun _ => fun
  | [d1, d2, d3, d4] => { results := [.lit (.bool true)], args := [d1, d2, d3, d4] }
  | _ => none }
def limbRingRow : OpenClaim := { program := "ytaeamlldocbeeaa", sum := "13e34d93b5e5ed78bd79336bb0be2cff89bfd731be4c90694ea335c443fa7802", func := "bailey/baileylaw1.LimbRing", spec := "limbRing", inPlace := ["math/bits.Add64", "math/bits.Sub64"], unfollowed := true, recurses := true, named := ["math/bits.divideError", "math/bits.overflowError"], apart := false }
def LimbRingSaid : Prop := limbRingRow.holds Try.pinned (OpenSpec.ofChange limbRingSpec)

/-- ITS FALSE NEIGHBOUR: 'it returns false'. Refute it at one input. -/
def limbRingWrong : ChangeSpec := { name := "limbRing", fn := fun _ => fun
  | [d1, d2, d3, d4] => { results := [.lit (.bool false)], args := [d1, d2, d3, d4] }
  | _ => none }
def LimbRingWrongFalsely : Prop := limbRingRow.holds Try.pinned (OpenSpec.ofChange limbRingWrong)

/-- 'baileylaw1.LimbSums': WHATEVER THE INPUT: true; the input reads as it did. -/
def limbSumsSpec : ChangeSpec := { name := "limbSums", fn := fun _ => fun
  | [d1, d2] => { results := [.lit (.bool true)], args := [d1, d2] }
  | _ => none }
def limbSumsRow : OpenClaim := { program := "ytaeamlldocbeeaa", sum := "13e34d93b5e5ed78bd79336bb0be2cff89bfd731be4c90694ea335c443fa7802", func := "bailey/baileylaw1.LimbSums", spec := "limbSums", inPlace := ["math/bits.Add64", "math/bits.Sub64"], unfollowed := true, recurses := true, named := ["math/bits.divideError", "math/bits.overflowError"], apart := false }
def LimbSumsSaid : Prop := limbSumsRow.holds Try.pinned (OpenSpec.ofChange limbSumsSpec)

/-- ITS FALSE NEIGHBOUR: 'it returns false'. Refute it at one input. -/
def limbSumsWrong : ChangeSpec := { name := "limbSums", fn := fun _ => fun
  | [d1, d2] => { results := [.lit (.bool false)], args := [d1, d2] }
  | _ => none }
def LimbSumsWrongFalsely : Prop := limbSumsRow.holds Try.pinned (OpenSpec.ofChange limbSumsWrong)

/-- 'baileylaw2.ModInverse': WHATEVER THE INPUT: true; the input reads as it did. -/
def modInverseSpec : ChangeSpec := { name := "modInverse", fn := fun _ => fun
  | [d1, d2] => { results := [.lit (.bool true)], args := [d1, d2] }
  | _ => none }
def modInverseRow : OpenClaim := { program := "ytaeamlldocbeeaa", sum := "13e34d93b5e5ed78bd79336bb0be2cff89bfd731be4c90694ea335c443fa7802", func := "bailey/baileylaw2.ModInverse", spec := "modInverse", inPlace := ["math/bits.Add64", "math/bits.Sub64"], unfollowed := true, recurses := true, named := ["math/bits.divideError", "math/bits.overflowError"], apart := false }
def ModInverseSaid : Prop := modInverseRow.holds Try.pinned (OpenSpec.ofChange modInverseSpec)

/-- ITS FALSE NEIGHBOUR: 'it returns false'. Refute it at one input. -/
def modInverseWrong : ChangeSpec := { name := "modInverse", fn := fun _ => fun
  | [d1, d2] => { results := [.lit (.bool false)], args := [d1, d2] }
  | _ => none }
def ModInverseWrongFalsely : Prop := modInverseRow.holds Try.pinned (OpenSpec.ofChange modInverseWrong)

/-- 'baileylaw2.ModStrong': WHATEVER THE INPUT: true; the input reads as it did. -/
def modStrongSpec : ChangeSpec := { name := "modStrong", fn := fun _ => fun
  | [d1, d2] => { results := [.lit (.bool true)], args := [d1, d2] }
  | _ => none }
def modStrongRow : OpenClaim := { program := "ytaeamlldocbeeaa", sum := "13e34d93b5e5ed78bd79336bb0be2cff89bfd731be4c90694ea335c443fa7802", func := "bailey/baileylaw2.ModStrong", spec := "modStrong", inPlace := ["math/bits.Add64", "math/bits.Sub64"], unfollowed := true, recurses := true, named := ["math/bits.divideError", "math/bits.overflowError"], apart := false }
def ModStrongSaid : Prop := modStrongRow.holds Try.pinned (OpenSpec.ofChange modStrongSpec)

/-- ITS FALSE NEIGHBOUR: 'it returns false'. Refute it at one input. -/
def modStrongWrong : ChangeSpec := { name := "modStrong", fn := fun _ => fun
  | [d1, d2] => { results := [.lit (.bool false)], args := [d1, d2] }
  | _ => none }
def ModStrongWrongFalsely : Prop := modStrongRow.holds Try.pinned (OpenSpec.ofChange modStrongWrong)

/-- 'baileylaw2.ModNext': WHATEVER THE INPUT: true; the input reads as it did. -/
def modNextSpec : ChangeSpec := { name := "modNext", fn := fun _ => fun
  | [d1, d2] => { results := [.lit (.bool true)], args := [d1, d2] }
  | _ => none }
def modNextRow : OpenClaim := { program := "ytaeamlldocbeeaa", sum := "13e34d93b5e5ed78bd79336bb0be2cff89bfd731be4c90694ea335c443fa7802", func := "bailey/baileylaw2.ModNext", spec := "modNext", inPlace := ["math/bits.Add64", "math/bits.Sub64"], unfollowed := true, recurses := true, named := ["math/bits.divideError", "math/bits.overflowError"], apart := false }
def ModNextSaid : Prop := modNextRow.holds Try.pinned (OpenSpec.ofChange modNextSpec)

/-- ITS FALSE NEIGHBOUR: 'it returns false'. Refute it at one input. -/
def modNextWrong : ChangeSpec := { name := "modNext", fn := fun _ => fun
  | [d1, d2] => { results := [.lit (.bool false)], args := [d1, d2] }
  | _ => none }
def ModNextWrongFalsely : Prop := modNextRow.holds Try.pinned (OpenSpec.ofChange modNextWrong)

/-- 'baileylaw2.ModBig': WHATEVER THE INPUT: true; the input reads as it did. -/
def modBigSpec : ChangeSpec := { name := "modBig", fn := fun _ => fun
  | [d] => { results := [.lit (.bool true)], args := [d] }
  | _ => none }
def modBigRow : OpenClaim := { program := "ytaeamlldocbeeaa", sum := "13e34d93b5e5ed78bd79336bb0be2cff89bfd731be4c90694ea335c443fa7802", func := "bailey/baileylaw2.ModBig", spec := "modBig", inPlace := ["math/bits.Add64", "math/bits.Sub64"], unfollowed := true, recurses := true, named := ["math/bits.divideError", "math/bits.overflowError"], apart := false }
def ModBigSaid : Prop := modBigRow.holds Try.pinned (OpenSpec.ofChange modBigSpec)

/-- ITS FALSE NEIGHBOUR: 'it returns false'. Refute it at one input. -/
def modBigWrong : ChangeSpec := { name := "modBig", fn := fun _ => fun
  | [d] => { results := [.lit (.bool false)], args := [d] }
  | _ => none }
def ModBigWrongFalsely : Prop := modBigRow.holds Try.pinned (OpenSpec.ofChange modBigWrong)

/-- 'baileylaw2.ModPowers': WHATEVER THE INPUT: true; the input reads as it did. -/
def modPowersSpec : ChangeSpec := { name := "modPowers", fn := fun _ => fun
  | [d1, d2, d3] => { results := [.lit (.bool true)], args := [d1, d2, d3] }
  | _ => none }
def modPowersRow : OpenClaim := { program := "ytaeamlldocbeeaa", sum := "13e34d93b5e5ed78bd79336bb0be2cff89bfd731be4c90694ea335c443fa7802", func := "bailey/baileylaw2.ModPowers", spec := "modPowers", inPlace := ["math/bits.Add64", "math/bits.Sub64"], unfollowed := true, recurses := true, named := ["math/bits.divideError", "math/bits.overflowError"], apart := false }
def ModPowersSaid : Prop := modPowersRow.holds Try.pinned (OpenSpec.ofChange modPowersSpec)

/-- ITS FALSE NEIGHBOUR: 'it returns false'. Refute it at one input. -/
def modPowersWrong : ChangeSpec := { name := "modPowers", fn := fun _ => fun
  | [d1, d2, d3] => { results := [.lit (.bool false)], args := [d1, d2, d3] }
  | _ => none }
def ModPowersWrongFalsely : Prop := modPowersRow.holds Try.pinned (OpenSpec.ofChange modPowersWrong)

/- THE SECOND FORM. 'bulk': how many values and letters a reading holds, each counted each time it is reached (what is shared counts as often as it is met; a slice's spare places count too). A statement '..UptoSaid' is the law's where the arguments, and the package variables that the reading takes, are together of bulk at most 1048576: NARROWER than '..Said'. Prove '..Said' where nothing that the law and all that it calls make is longer than what came in: it says more and counts as full. Else prove '..UptoSaid'. A law counts once. -/
mutual
def uptoBulk {H : Type} : DataW H → Nat
  | .lit (.string bytes) => bytes.length + 1
  | .lit _ => 1
  | .nil => 1
  | .ptr d => uptoBulk d + 1
  | .slice elems spare => uptoBulkAll elems + uptoBulkAll spare + 1
  | .agg parts => uptoBulkAll parts + 1
  | .iface _ d => uptoBulk d + 1
  | .map entries => uptoBulkEntries entries + 1
  | .held _ => 1
def uptoBulkAll {H : Type} : List (DataW H) → Nat
  | [] => 0
  | d :: r => uptoBulk d + uptoBulkAll r
def uptoBulkEntries {H : Type} : List (Lit × DataW H) → Nat
  | [] => 0
  | x :: r => uptoBulkEntry x + uptoBulkEntries r
def uptoBulkEntry {H : Type} : Lit × DataW H → Nat
  | (.string bytes, d) => bytes.length + uptoBulk d + 1
  | (_, d) => uptoBulk d + 1
 end
def uptoSmall : (H : Type) → List (DataW H) → Bool := fun _ ds => decide (uptoBulkAll ds ≤ 1048576)
def OpenSpec.upto (s : _root_.Go.ChangeSpec) : _root_.Go.OpenSpec := { _root_.Go.OpenSpec.ofChange s with cond := some uptoSmall }

/-- 'baileylaw1.LimbQuo', WHERE WHAT IT READS IS OF BULK AT MOST 1048576: true; the input reads as it did. -/
def limbQuoUptoRow : OpenClaim := { program := "ytaeamlldocbeeaa", sum := "13e34d93b5e5ed78bd79336bb0be2cff89bfd731be4c90694ea335c443fa7802", func := "bailey/baileylaw1.LimbQuo", spec := "limbQuo", inPlace := ["math/bits.Add64", "math/bits.Sub64"], unfollowed := true, recurses := true, named := ["math/bits.divideError", "math/bits.overflowError"], apart := false, narrowed := true }
def LimbQuoUptoSaid : Prop := limbQuoUptoRow.holds Try.pinned (OpenSpec.upto limbQuoSpec)

/-- 'baileylaw1.LimbShift', WHERE WHAT IT READS IS OF BULK AT MOST 1048576: true; the input reads as it did. -/
def limbShiftUptoRow : OpenClaim := { program := "ytaeamlldocbeeaa", sum := "13e34d93b5e5ed78bd79336bb0be2cff89bfd731be4c90694ea335c443fa7802", func := "bailey/baileylaw1.LimbShift", spec := "limbShift", inPlace := ["math/bits.Add64", "math/bits.Sub64"], unfollowed := true, recurses := true, named := ["math/bits.divideError", "math/bits.overflowError"], apart := false, narrowed := true }
def LimbShiftUptoSaid : Prop := limbShiftUptoRow.holds Try.pinned (OpenSpec.upto limbShiftSpec)

/-- 'baileylaw1.LimbBytes', WHERE WHAT IT READS IS OF BULK AT MOST 1048576: true; the input reads as it did. -/
def limbBytesUptoRow : OpenClaim := { program := "ytaeamlldocbeeaa", sum := "13e34d93b5e5ed78bd79336bb0be2cff89bfd731be4c90694ea335c443fa7802", func := "bailey/baileylaw1.LimbBytes", spec := "limbBytes", inPlace := ["math/bits.Add64", "math/bits.Sub64"], unfollowed := true, recurses := true, named := ["math/bits.divideError", "math/bits.overflowError"], apart := false, narrowed := true }
def LimbBytesUptoSaid : Prop := limbBytesUptoRow.holds Try.pinned (OpenSpec.upto limbBytesSpec)

/-- 'baileylaw1.LimbRing', WHERE WHAT IT READS IS OF BULK AT MOST 1048576: true; the input reads as it did. -/
def limbRingUptoRow : OpenClaim := { program := "ytaeamlldocbeeaa", sum := "13e34d93b5e5ed78bd79336bb0be2cff89bfd731be4c90694ea335c443fa7802", func := "bailey/baileylaw1.LimbRing", spec := "limbRing", inPlace := ["math/bits.Add64", "math/bits.Sub64"], unfollowed := true, recurses := true, named := ["math/bits.divideError", "math/bits.overflowError"], apart := false, narrowed := true }
def LimbRingUptoSaid : Prop := limbRingUptoRow.holds Try.pinned (OpenSpec.upto limbRingSpec)

/-- 'baileylaw1.LimbSums', WHERE WHAT IT READS IS OF BULK AT MOST 1048576: true; the input reads as it did. -/
def limbSumsUptoRow : OpenClaim := { program := "ytaeamlldocbeeaa", sum := "13e34d93b5e5ed78bd79336bb0be2cff89bfd731be4c90694ea335c443fa7802", func := "bailey/baileylaw1.LimbSums", spec := "limbSums", inPlace := ["math/bits.Add64", "math/bits.Sub64"], unfollowed := true, recurses := true, named := ["math/bits.divideError", "math/bits.overflowError"], apart := false, narrowed := true }
def LimbSumsUptoSaid : Prop := limbSumsUptoRow.holds Try.pinned (OpenSpec.upto limbSumsSpec)

/-- 'baileylaw2.ModInverse', WHERE WHAT IT READS IS OF BULK AT MOST 1048576: true; the input reads as it did. -/
def modInverseUptoRow : OpenClaim := { program := "ytaeamlldocbeeaa", sum := "13e34d93b5e5ed78bd79336bb0be2cff89bfd731be4c90694ea335c443fa7802", func := "bailey/baileylaw2.ModInverse", spec := "modInverse", inPlace := ["math/bits.Add64", "math/bits.Sub64"], unfollowed := true, recurses := true, named := ["math/bits.divideError", "math/bits.overflowError"], apart := false, narrowed := true }
def ModInverseUptoSaid : Prop := modInverseUptoRow.holds Try.pinned (OpenSpec.upto modInverseSpec)

/-- 'baileylaw2.ModStrong', WHERE WHAT IT READS IS OF BULK AT MOST 1048576: true; the input reads as it did. -/
def modStrongUptoRow : OpenClaim := { program := "ytaeamlldocbeeaa", sum := "13e34d93b5e5ed78bd79336bb0be2cff89bfd731be4c90694ea335c443fa7802", func := "bailey/baileylaw2.ModStrong", spec := "modStrong", inPlace := ["math/bits.Add64", "math/bits.Sub64"], unfollowed := true, recurses := true, named := ["math/bits.divideError", "math/bits.overflowError"], apart := false, narrowed := true }
def ModStrongUptoSaid : Prop := modStrongUptoRow.holds Try.pinned (OpenSpec.upto modStrongSpec)

/-- 'baileylaw2.ModNext', WHERE WHAT IT READS IS OF BULK AT MOST 1048576: true; the input reads as it did. -/
def modNextUptoRow : OpenClaim := { program := "ytaeamlldocbeeaa", sum := "13e34d93b5e5ed78bd79336bb0be2cff89bfd731be4c90694ea335c443fa7802", func := "bailey/baileylaw2.ModNext", spec := "modNext", inPlace := ["math/bits.Add64", "math/bits.Sub64"], unfollowed := true, recurses := true, named := ["math/bits.divideError", "math/bits.overflowError"], apart := false, narrowed := true }
def ModNextUptoSaid : Prop := modNextUptoRow.holds Try.pinned (OpenSpec.upto modNextSpec)

/-- 'baileylaw2.ModBig', WHERE WHAT IT READS IS OF BULK AT MOST 1048576: true; the input reads as it did. -/
def modBigUptoRow : OpenClaim := { program := "ytaeamlldocbeeaa", sum := "13e34d93b5e5ed78bd79336bb0be2cff89bfd731be4c90694ea335c443fa7802", func := "bailey/baileylaw2.ModBig", spec := "modBig", inPlace := ["math/bits.Add64", "math/bits.Sub64"], unfollowed := true, recurses := true, named := ["math/bits.divideError", "math/bits.overflowError"], apart := false, narrowed := true }
def ModBigUptoSaid : Prop := modBigUptoRow.holds Try.pinned (OpenSpec.upto modBigSpec)

/-- 'baileylaw2.ModPowers', WHERE WHAT IT READS IS OF BULK AT MOST 1048576: true; the input reads as it did. -/
def modPowersUptoRow : OpenClaim := { program := "ytaeamlldocbeeaa", sum := "13e34d93b5e5ed78bd79336bb0be2cff89bfd731be4c90694ea335c443fa7802", func := "bailey/baileylaw2.ModPowers", spec := "modPowers", inPlace := ["math/bits.Add64", "math/bits.Sub64"], unfollowed := true, recurses := true, named := ["math/bits.divideError", "math/bits.overflowError"], apart := false, narrowed := true }
def ModPowersUptoSaid : Prop := modPowersUptoRow.holds Try.pinned (OpenSpec.upto modPowersSpec)

end Rows
end Go.Proofs.Ytaeamlldocbeeaa
