/-
  No cell of these rows narrows 'for every input' (looked for: loops, veiled, ifaces, maps, wideKeys, modest, calm, conditions, laid).
  DERIVED. THE GIVEN ROWS OF THIS SEAT. 8 by the template 'for every input the law returns true; each argument reads behind the call as it read before'; 0 by the template 'total and deterministic' (their statements: YtkdbijfkcjcjmaaTotals.lean).
  GIVEN WITH THE SEED: the statements are not yours to turn. If you find one false, say at which input.
  Laid BY PROGRAM, IN A SANDBOX (cutbox-rows.mjs): the forced cells as the released guide's own fill.sh prints them over the translation 0c585c825668b529… (all of the seat's roots in one cut). By AI agents, Wed Nov 11 2026. No macro, syntax, notation, axiom, sorry.
-/
import Derived.Test.YtkdbijfkcjcjmaaChecked
import GoSem.Claim
import GoSem.ClaimJoined
import GoSem.ClaimMapViews
import Derived.JoinedTies
import Derived.KernelRfl
namespace Go.Proofs.Ytkdbijfkcjcjmaa
/- THE CELL 'sum', in the pinned program and in every row, IS THE sha256 OF THE DUMP (.gsa) THAT YtkdbijfkcjcjmaaProg.lean LOADS. Nothing in Lean hashes anything: it is a label: what it is worth is what the hold of that sum in a sandbox is worth. -/
noncomputable def Try.pinned : Pinned := { name := "ytkdbijfkcjcjmaa", sum := "0c585c825668b5293b1c135dd3bf1fa9d681baaab5cfa37f957aae4938ea3dcc", checked := Try.checked }
namespace Rows
def none {H : Type} : Left H := { results := [], args := [] }

/-- 'wageofficelaw12.FactsMatchesReference': WHATEVER THE INPUT: true; the input reads as it did. -/
def factsMatchesReferenceSpec : ChangeSpec := { name := "factsMatchesReference", fn := fun _ => fun
  | [d1, d2, d3, d4, d5, d6, d7] => { results := [.lit (.bool true)], args := [d1, d2, d3, d4, d5, d6, d7] }
  | _ => none }
def factsMatchesReferenceRow : OpenClaim := { program := "ytkdbijfkcjcjmaa", sum := "0c585c825668b5293b1c135dd3bf1fa9d681baaab5cfa37f957aae4938ea3dcc", func := "wageoffice/wageofficelaw12.FactsMatchesReference", spec := "factsMatchesReference", unfollowed := true, recurses := true, apart := false }
def FactsMatchesReferenceSaid : Prop := factsMatchesReferenceRow.holds Try.pinned (OpenSpec.ofChange factsMatchesReferenceSpec)

/-- ITS FALSE NEIGHBOUR: 'it returns false'. Refute it at one input. -/
def factsMatchesReferenceWrong : ChangeSpec := { name := "factsMatchesReference", fn := fun _ => fun
  | [d1, d2, d3, d4, d5, d6, d7] => { results := [.lit (.bool false)], args := [d1, d2, d3, d4, d5, d6, d7] }
  | _ => none }
def FactsMatchesReferenceWrongFalsely : Prop := factsMatchesReferenceRow.holds Try.pinned (OpenSpec.ofChange factsMatchesReferenceWrong)

/-- 'wageofficelaw12.FactsRecording': WHATEVER THE INPUT: true; the input reads as it did. -/
def factsRecordingSpec : ChangeSpec := { name := "factsRecording", fn := fun _ => fun
  | [d1, d2, d3, d4, d5, d6] => { results := [.lit (.bool true)], args := [d1, d2, d3, d4, d5, d6] }
  | _ => none }
def factsRecordingRow : OpenClaim := { program := "ytkdbijfkcjcjmaa", sum := "0c585c825668b5293b1c135dd3bf1fa9d681baaab5cfa37f957aae4938ea3dcc", func := "wageoffice/wageofficelaw12.FactsRecording", spec := "factsRecording", unfollowed := true, recurses := true, apart := false }
def FactsRecordingSaid : Prop := factsRecordingRow.holds Try.pinned (OpenSpec.ofChange factsRecordingSpec)

/-- ITS FALSE NEIGHBOUR: 'it returns false'. Refute it at one input. -/
def factsRecordingWrong : ChangeSpec := { name := "factsRecording", fn := fun _ => fun
  | [d1, d2, d3, d4, d5, d6] => { results := [.lit (.bool false)], args := [d1, d2, d3, d4, d5, d6] }
  | _ => none }
def FactsRecordingWrongFalsely : Prop := factsRecordingRow.holds Try.pinned (OpenSpec.ofChange factsRecordingWrong)

/-- 'wageofficelaw12.FactsPast': WHATEVER THE INPUT: true; the input reads as it did. -/
def factsPastSpec : ChangeSpec := { name := "factsPast", fn := fun _ => fun
  | [d1, d2, d3, d4, d5, d6] => { results := [.lit (.bool true)], args := [d1, d2, d3, d4, d5, d6] }
  | _ => none }
def factsPastRow : OpenClaim := { program := "ytkdbijfkcjcjmaa", sum := "0c585c825668b5293b1c135dd3bf1fa9d681baaab5cfa37f957aae4938ea3dcc", func := "wageoffice/wageofficelaw12.FactsPast", spec := "factsPast", unfollowed := true, recurses := true, apart := false }
def FactsPastSaid : Prop := factsPastRow.holds Try.pinned (OpenSpec.ofChange factsPastSpec)

/-- ITS FALSE NEIGHBOUR: 'it returns false'. Refute it at one input. -/
def factsPastWrong : ChangeSpec := { name := "factsPast", fn := fun _ => fun
  | [d1, d2, d3, d4, d5, d6] => { results := [.lit (.bool false)], args := [d1, d2, d3, d4, d5, d6] }
  | _ => none }
def FactsPastWrongFalsely : Prop := factsPastRow.holds Try.pinned (OpenSpec.ofChange factsPastWrong)

/-- 'wageofficelaw12.FactsLocality': WHATEVER THE INPUT: true; the input reads as it did. -/
def factsLocalitySpec : ChangeSpec := { name := "factsLocality", fn := fun _ => fun
  | [d1, d2, d3, d4, d5] => { results := [.lit (.bool true)], args := [d1, d2, d3, d4, d5] }
  | _ => none }
def factsLocalityRow : OpenClaim := { program := "ytkdbijfkcjcjmaa", sum := "0c585c825668b5293b1c135dd3bf1fa9d681baaab5cfa37f957aae4938ea3dcc", func := "wageoffice/wageofficelaw12.FactsLocality", spec := "factsLocality", unfollowed := true, recurses := true, apart := false }
def FactsLocalitySaid : Prop := factsLocalityRow.holds Try.pinned (OpenSpec.ofChange factsLocalitySpec)

/-- ITS FALSE NEIGHBOUR: 'it returns false'. Refute it at one input. -/
def factsLocalityWrong : ChangeSpec := { name := "factsLocality", fn := fun _ => fun
  | [d1, d2, d3, d4, d5] => { results := [.lit (.bool false)], args := [d1, d2, d3, d4, d5] }
  | _ => none }
def FactsLocalityWrongFalsely : Prop := factsLocalityRow.holds Try.pinned (OpenSpec.ofChange factsLocalityWrong)

/-- 'wageofficelaw12.FactsOrder': WHATEVER THE INPUT: true; the input reads as it did. -/
def factsOrderSpec : ChangeSpec := { name := "factsOrder", fn := fun _ => fun
  | [d1, d2, d3, d4, d5, d6] => { results := [.lit (.bool true)], args := [d1, d2, d3, d4, d5, d6] }
  | _ => none }
def factsOrderRow : OpenClaim := { program := "ytkdbijfkcjcjmaa", sum := "0c585c825668b5293b1c135dd3bf1fa9d681baaab5cfa37f957aae4938ea3dcc", func := "wageoffice/wageofficelaw12.FactsOrder", spec := "factsOrder", unfollowed := true, recurses := true, apart := false }
def FactsOrderSaid : Prop := factsOrderRow.holds Try.pinned (OpenSpec.ofChange factsOrderSpec)

/-- ITS FALSE NEIGHBOUR: 'it returns false'. Refute it at one input. -/
def factsOrderWrong : ChangeSpec := { name := "factsOrder", fn := fun _ => fun
  | [d1, d2, d3, d4, d5, d6] => { results := [.lit (.bool false)], args := [d1, d2, d3, d4, d5, d6] }
  | _ => none }
def FactsOrderWrongFalsely : Prop := factsOrderRow.holds Try.pinned (OpenSpec.ofChange factsOrderWrong)

/-- 'wageofficelaw12.FactsBuilding': WHATEVER THE INPUT: true; the input reads as it did. -/
def factsBuildingSpec : ChangeSpec := { name := "factsBuilding", fn := fun _ => fun
  | [d] => { results := [.lit (.bool true)], args := [d] }
  | _ => none }
def factsBuildingRow : OpenClaim := { program := "ytkdbijfkcjcjmaa", sum := "0c585c825668b5293b1c135dd3bf1fa9d681baaab5cfa37f957aae4938ea3dcc", func := "wageoffice/wageofficelaw12.FactsBuilding", spec := "factsBuilding", unfollowed := true, recurses := true, apart := false }
def FactsBuildingSaid : Prop := factsBuildingRow.holds Try.pinned (OpenSpec.ofChange factsBuildingSpec)

/-- ITS FALSE NEIGHBOUR: 'it returns false'. Refute it at one input. -/
def factsBuildingWrong : ChangeSpec := { name := "factsBuilding", fn := fun _ => fun
  | [d] => { results := [.lit (.bool false)], args := [d] }
  | _ => none }
def FactsBuildingWrongFalsely : Prop := factsBuildingRow.holds Try.pinned (OpenSpec.ofChange factsBuildingWrong)

/-- 'wageofficelaw12.FactsCorrections': WHATEVER THE INPUT: true; the input reads as it did. -/
def factsCorrectionsSpec : ChangeSpec := { name := "factsCorrections", fn := fun _ => fun
  | [d1, d2, d3, d4, d5, d6] => { results := [.lit (.bool true)], args := [d1, d2, d3, d4, d5, d6] }
  | _ => none }
def factsCorrectionsRow : OpenClaim := { program := "ytkdbijfkcjcjmaa", sum := "0c585c825668b5293b1c135dd3bf1fa9d681baaab5cfa37f957aae4938ea3dcc", func := "wageoffice/wageofficelaw12.FactsCorrections", spec := "factsCorrections", unfollowed := true, recurses := true, apart := false }
def FactsCorrectionsSaid : Prop := factsCorrectionsRow.holds Try.pinned (OpenSpec.ofChange factsCorrectionsSpec)

/-- ITS FALSE NEIGHBOUR: 'it returns false'. Refute it at one input. -/
def factsCorrectionsWrong : ChangeSpec := { name := "factsCorrections", fn := fun _ => fun
  | [d1, d2, d3, d4, d5, d6] => { results := [.lit (.bool false)], args := [d1, d2, d3, d4, d5, d6] }
  | _ => none }
def FactsCorrectionsWrongFalsely : Prop := factsCorrectionsRow.holds Try.pinned (OpenSpec.ofChange factsCorrectionsWrong)

/-- 'wageofficelaw12.FactsChanged': WHATEVER THE INPUT: true; the input reads as it did. -/
def factsChangedSpec : ChangeSpec := { name := "factsChanged", fn := fun _ => fun
  | [d1, d2, d3, d4, d5, d6] => { results := [.lit (.bool true)], args := [d1, d2, d3, d4, d5, d6] }
  | _ => none }
def factsChangedRow : OpenClaim := { program := "ytkdbijfkcjcjmaa", sum := "0c585c825668b5293b1c135dd3bf1fa9d681baaab5cfa37f957aae4938ea3dcc", func := "wageoffice/wageofficelaw12.FactsChanged", spec := "factsChanged", unfollowed := true, recurses := true, apart := false }
def FactsChangedSaid : Prop := factsChangedRow.holds Try.pinned (OpenSpec.ofChange factsChangedSpec)

/-- ITS FALSE NEIGHBOUR: 'it returns false'. Refute it at one input. -/
def factsChangedWrong : ChangeSpec := { name := "factsChanged", fn := fun _ => fun
  | [d1, d2, d3, d4, d5, d6] => { results := [.lit (.bool false)], args := [d1, d2, d3, d4, d5, d6] }
  | _ => none }
def FactsChangedWrongFalsely : Prop := factsChangedRow.holds Try.pinned (OpenSpec.ofChange factsChangedWrong)

/- THE SECOND FORM. 'bulk': how many values and letters a reading holds, each counted each time it is reached (what is shared counts as often as it is met; a slice's spare places count too). A statement '..UptoSaid' is the law's where the arguments, and the package variables that the reading takes, are together of bulk at most 1048576: NARROWER than '..Said'. Prove '..Said' where nothing that the law and all that it calls make is longer than what came in: it says more and counts as full. Else prove '..UptoSaid'. A law counts once. -/
mutual
def uptoBulk {H : Type} : DataW H → Nat
  | .lit (.string bytes) => bytes.length + 1
  | .lit _ => 1
  | .nil => 1
  | .ptr d => uptoBulk d + 1
  | .slice elems spare => uptoBulkAll elems + uptoBulkAll spare + 1
  | .agg parts => uptoBulkAll parts + 1
  | .iface _ d => uptoBulk d + 1
  | .map entries => uptoBulkEntries entries + 1
  | .held _ => 1
def uptoBulkAll {H : Type} : List (DataW H) → Nat
  | [] => 0
  | d :: r => uptoBulk d + uptoBulkAll r
def uptoBulkEntries {H : Type} : List (Lit × DataW H) → Nat
  | [] => 0
  | x :: r => uptoBulkEntry x + uptoBulkEntries r
def uptoBulkEntry {H : Type} : Lit × DataW H → Nat
  | (.string bytes, d) => bytes.length + uptoBulk d + 1
  | (_, d) => uptoBulk d + 1
 end
def uptoSmall : (H : Type) → List (DataW H) → Bool := fun _ ds => decide (uptoBulkAll ds ≤ 1048576)
def OpenSpec.upto (s : _root_.Go.ChangeSpec) : _root_.Go.OpenSpec := { _root_.Go.OpenSpec.ofChange s with cond := some uptoSmall }

/-- 'wageofficelaw12.FactsMatchesReference', WHERE WHAT IT READS IS OF BULK AT MOST 1048576: true; the input reads as it did. -/
def factsMatchesReferenceUptoRow : OpenClaim := { program := "ytkdbijfkcjcjmaa", sum := "0c585c825668b5293b1c135dd3bf1fa9d681baaab5cfa37f957aae4938ea3dcc", func := "wageoffice/wageofficelaw12.FactsMatchesReference", spec := "factsMatchesReference", unfollowed := true, recurses := true, apart := false, narrowed := true }
def FactsMatchesReferenceUptoSaid : Prop := factsMatchesReferenceUptoRow.holds Try.pinned (OpenSpec.upto factsMatchesReferenceSpec)

/-- 'wageofficelaw12.FactsRecording', WHERE WHAT IT READS IS OF BULK AT MOST 1048576: true; the input reads as it did. -/
def factsRecordingUptoRow : OpenClaim := { program := "ytkdbijfkcjcjmaa", sum := "0c585c825668b5293b1c135dd3bf1fa9d681baaab5cfa37f957aae4938ea3dcc", func := "wageoffice/wageofficelaw12.FactsRecording", spec := "factsRecording", unfollowed := true, recurses := true, apart := false, narrowed := true }
def FactsRecordingUptoSaid : Prop := factsRecordingUptoRow.holds Try.pinned (OpenSpec.upto factsRecordingSpec)

/-- 'wageofficelaw12.FactsPast', WHERE WHAT IT READS IS OF BULK AT MOST 1048576: true; the input reads as it did. -/
def factsPastUptoRow : OpenClaim := { program := "ytkdbijfkcjcjmaa", sum := "0c585c825668b5293b1c135dd3bf1fa9d681baaab5cfa37f957aae4938ea3dcc", func := "wageoffice/wageofficelaw12.FactsPast", spec := "factsPast", unfollowed := true, recurses := true, apart := false, narrowed := true }
def FactsPastUptoSaid : Prop := factsPastUptoRow.holds Try.pinned (OpenSpec.upto factsPastSpec)

/-- 'wageofficelaw12.FactsLocality', WHERE WHAT IT READS IS OF BULK AT MOST 1048576: true; the input reads as it did. -/
def factsLocalityUptoRow : OpenClaim := { program := "ytkdbijfkcjcjmaa", sum := "0c585c825668b5293b1c135dd3bf1fa9d681baaab5cfa37f957aae4938ea3dcc", func := "wageoffice/wageofficelaw12.FactsLocality", spec := "factsLocality", unfollowed := true, recurses := true, apart := false, narrowed := true }
def FactsLocalityUptoSaid : Prop := factsLocalityUptoRow.holds Try.pinned (OpenSpec.upto factsLocalitySpec)

/-- 'wageofficelaw12.FactsOrder', WHERE WHAT IT READS IS OF BULK AT MOST 1048576: true; the input reads as it did. -/
def factsOrderUptoRow : OpenClaim := { program := "ytkdbijfkcjcjmaa", sum := "0c585c825668b5293b1c135dd3bf1fa9d681baaab5cfa37f957aae4938ea3dcc", func := "wageoffice/wageofficelaw12.FactsOrder", spec := "factsOrder", unfollowed := true, recurses := true, apart := false, narrowed := true }
def FactsOrderUptoSaid : Prop := factsOrderUptoRow.holds Try.pinned (OpenSpec.upto factsOrderSpec)

/-- 'wageofficelaw12.FactsBuilding', WHERE WHAT IT READS IS OF BULK AT MOST 1048576: true; the input reads as it did. -/
def factsBuildingUptoRow : OpenClaim := { program := "ytkdbijfkcjcjmaa", sum := "0c585c825668b5293b1c135dd3bf1fa9d681baaab5cfa37f957aae4938ea3dcc", func := "wageoffice/wageofficelaw12.FactsBuilding", spec := "factsBuilding", unfollowed := true, recurses := true, apart := false, narrowed := true }
def FactsBuildingUptoSaid : Prop := factsBuildingUptoRow.holds Try.pinned (OpenSpec.upto factsBuildingSpec)

/-- 'wageofficelaw12.FactsCorrections', WHERE WHAT IT READS IS OF BULK AT MOST 1048576: true; the input reads as it did. -/
def factsCorrectionsUptoRow : OpenClaim := { program := "ytkdbijfkcjcjmaa", sum := "0c585c825668b5293b1c135dd3bf1fa9d681baaab5cfa37f957aae4938ea3dcc", func := "wageoffice/wageofficelaw12.FactsCorrections", spec := "factsCorrections", unfollowed := true, recurses := true, apart := false, narrowed := true }
def FactsCorrectionsUptoSaid : Prop := factsCorrectionsUptoRow.holds Try.pinned (OpenSpec.upto factsCorrectionsSpec)

/-- 'wageofficelaw12.FactsChanged', WHERE WHAT IT READS IS OF BULK AT MOST 1048576: true; the input reads as it did. -/
def factsChangedUptoRow : OpenClaim := { program := "ytkdbijfkcjcjmaa", sum := "0c585c825668b5293b1c135dd3bf1fa9d681baaab5cfa37f957aae4938ea3dcc", func := "wageoffice/wageofficelaw12.FactsChanged", spec := "factsChanged", unfollowed := true, recurses := true, apart := false, narrowed := true }
def FactsChangedUptoSaid : Prop := factsChangedUptoRow.holds Try.pinned (OpenSpec.upto factsChangedSpec)

end Rows
end Go.Proofs.Ytkdbijfkcjcjmaa
