/-
  No cell of these rows narrows 'for every input' (looked for: loops, veiled, ifaces, maps, wideKeys, modest, calm, conditions, laid).
  DERIVED. THE GIVEN ROWS OF THIS SEAT. 6 by the template 'for every input the law returns true; each argument reads behind the call as it read before'; 0 by the template 'total and deterministic' (their statements: YtnekeokgognegaaTotals.lean).
  GIVEN WITH THE SEED: the statements are not yours to turn. If you find one false, say at which input.
  Laid BY PROGRAM, IN A SANDBOX (cutbox-rows.mjs): the forced cells as the released guide's own fill.sh prints them over the translation 163d364804663d3e… (all of the seat's roots in one cut). By AI agents, Wed Nov 11 2026. No macro, syntax, notation, axiom, sorry.
-/
import Derived.Test.YtnekeokgognegaaChecked
import GoSem.Claim
import GoSem.ClaimJoined
import GoSem.ClaimMapViews
import Derived.JoinedTies
import Derived.KernelRfl
namespace Go.Proofs.Ytnekeokgognegaa
/- THE CELL 'sum', in the pinned program and in every row, IS THE sha256 OF THE DUMP (.gsa) THAT YtnekeokgognegaaProg.lean LOADS. Nothing in Lean hashes anything: it is a label: what it is worth is what the hold of that sum in a sandbox is worth. -/
noncomputable def Try.pinned : Pinned := { name := "ytnekeokgognegaa", sum := "163d364804663d3e02f989c9f7db6848ead0d623a6dc139dcb7afd2dbd6033af", checked := Try.checked }
namespace Rows
def none {H : Type} : Left H := { results := [], args := [] }

/-- 'wageofficelaw05.PiecewiseMatchesReference': WHATEVER THE INPUT: true; the input reads as it did. -/
def piecewiseMatchesReferenceSpec : ChangeSpec := { name := "piecewiseMatchesReference", fn := fun _ => fun
  | [d1, d2, d3, d4, d5] => { results := [.lit (.bool true)], args := [d1, d2, d3, d4, d5] }
  | _ => none }
def piecewiseMatchesReferenceRow : OpenClaim := { program := "ytnekeokgognegaa", sum := "163d364804663d3e02f989c9f7db6848ead0d623a6dc139dcb7afd2dbd6033af", func := "wageoffice/wageofficelaw05.PiecewiseMatchesReference", spec := "piecewiseMatchesReference", unfollowed := true, recurses := true, apart := false }
def PiecewiseMatchesReferenceSaid : Prop := piecewiseMatchesReferenceRow.holds Try.pinned (OpenSpec.ofChange piecewiseMatchesReferenceSpec)

/-- ITS FALSE NEIGHBOUR: 'it returns false'. Refute it at one input. -/
def piecewiseMatchesReferenceWrong : ChangeSpec := { name := "piecewiseMatchesReference", fn := fun _ => fun
  | [d1, d2, d3, d4, d5] => { results := [.lit (.bool false)], args := [d1, d2, d3, d4, d5] }
  | _ => none }
def PiecewiseMatchesReferenceWrongFalsely : Prop := piecewiseMatchesReferenceRow.holds Try.pinned (OpenSpec.ofChange piecewiseMatchesReferenceWrong)

/-- 'wageofficelaw05.PiecewiseSums': WHATEVER THE INPUT: true; the input reads as it did. -/
def piecewiseSumsSpec : ChangeSpec := { name := "piecewiseSums", fn := fun _ => fun
  | [d1, d2, d3, d4] => { results := [.lit (.bool true)], args := [d1, d2, d3, d4] }
  | _ => none }
def piecewiseSumsRow : OpenClaim := { program := "ytnekeokgognegaa", sum := "163d364804663d3e02f989c9f7db6848ead0d623a6dc139dcb7afd2dbd6033af", func := "wageoffice/wageofficelaw05.PiecewiseSums", spec := "piecewiseSums", unfollowed := true, recurses := true, apart := false }
def PiecewiseSumsSaid : Prop := piecewiseSumsRow.holds Try.pinned (OpenSpec.ofChange piecewiseSumsSpec)

/-- ITS FALSE NEIGHBOUR: 'it returns false'. Refute it at one input. -/
def piecewiseSumsWrong : ChangeSpec := { name := "piecewiseSums", fn := fun _ => fun
  | [d1, d2, d3, d4] => { results := [.lit (.bool false)], args := [d1, d2, d3, d4] }
  | _ => none }
def PiecewiseSumsWrongFalsely : Prop := piecewiseSumsRow.holds Try.pinned (OpenSpec.ofChange piecewiseSumsWrong)

/-- 'wageofficelaw05.PiecewiseLeast': WHATEVER THE INPUT: true; the input reads as it did. -/
def piecewiseLeastSpec : ChangeSpec := { name := "piecewiseLeast", fn := fun _ => fun
  | [d1, d2, d3, d4] => { results := [.lit (.bool true)], args := [d1, d2, d3, d4] }
  | _ => none }
def piecewiseLeastRow : OpenClaim := { program := "ytnekeokgognegaa", sum := "163d364804663d3e02f989c9f7db6848ead0d623a6dc139dcb7afd2dbd6033af", func := "wageoffice/wageofficelaw05.PiecewiseLeast", spec := "piecewiseLeast", unfollowed := true, recurses := true, apart := false }
def PiecewiseLeastSaid : Prop := piecewiseLeastRow.holds Try.pinned (OpenSpec.ofChange piecewiseLeastSpec)

/-- ITS FALSE NEIGHBOUR: 'it returns false'. Refute it at one input. -/
def piecewiseLeastWrong : ChangeSpec := { name := "piecewiseLeast", fn := fun _ => fun
  | [d1, d2, d3, d4] => { results := [.lit (.bool false)], args := [d1, d2, d3, d4] }
  | _ => none }
def PiecewiseLeastWrongFalsely : Prop := piecewiseLeastRow.holds Try.pinned (OpenSpec.ofChange piecewiseLeastWrong)

/-- 'wageofficelaw05.PiecewiseWhere': WHATEVER THE INPUT: true; the input reads as it did. -/
def piecewiseWhereSpec : ChangeSpec := { name := "piecewiseWhere", fn := fun _ => fun
  | [d1, d2, d3, d4, d5] => { results := [.lit (.bool true)], args := [d1, d2, d3, d4, d5] }
  | _ => none }
def piecewiseWhereRow : OpenClaim := { program := "ytnekeokgognegaa", sum := "163d364804663d3e02f989c9f7db6848ead0d623a6dc139dcb7afd2dbd6033af", func := "wageoffice/wageofficelaw05.PiecewiseWhere", spec := "piecewiseWhere", unfollowed := true, recurses := true, apart := false }
def PiecewiseWhereSaid : Prop := piecewiseWhereRow.holds Try.pinned (OpenSpec.ofChange piecewiseWhereSpec)

/-- ITS FALSE NEIGHBOUR: 'it returns false'. Refute it at one input. -/
def piecewiseWhereWrong : ChangeSpec := { name := "piecewiseWhere", fn := fun _ => fun
  | [d1, d2, d3, d4, d5] => { results := [.lit (.bool false)], args := [d1, d2, d3, d4, d5] }
  | _ => none }
def PiecewiseWhereWrongFalsely : Prop := piecewiseWhereRow.holds Try.pinned (OpenSpec.ofChange piecewiseWhereWrong)

/-- 'wageofficelaw05.PiecewiseRounds': WHATEVER THE INPUT: true; the input reads as it did. -/
def piecewiseRoundsSpec : ChangeSpec := { name := "piecewiseRounds", fn := fun _ => fun
  | [d1, d2, d3] => { results := [.lit (.bool true)], args := [d1, d2, d3] }
  | _ => none }
def piecewiseRoundsRow : OpenClaim := { program := "ytnekeokgognegaa", sum := "163d364804663d3e02f989c9f7db6848ead0d623a6dc139dcb7afd2dbd6033af", func := "wageoffice/wageofficelaw05.PiecewiseRounds", spec := "piecewiseRounds", unfollowed := true, recurses := true, apart := false }
def PiecewiseRoundsSaid : Prop := piecewiseRoundsRow.holds Try.pinned (OpenSpec.ofChange piecewiseRoundsSpec)

/-- ITS FALSE NEIGHBOUR: 'it returns false'. Refute it at one input. -/
def piecewiseRoundsWrong : ChangeSpec := { name := "piecewiseRounds", fn := fun _ => fun
  | [d1, d2, d3] => { results := [.lit (.bool false)], args := [d1, d2, d3] }
  | _ => none }
def PiecewiseRoundsWrongFalsely : Prop := piecewiseRoundsRow.holds Try.pinned (OpenSpec.ofChange piecewiseRoundsWrong)

/-- 'wageofficelaw05.PiecewiseSlopes': WHATEVER THE INPUT: true; the input reads as it did. -/
def piecewiseSlopesSpec : ChangeSpec := { name := "piecewiseSlopes", fn := fun _ => fun
  | [d1, d2, d3] => { results := [.lit (.bool true)], args := [d1, d2, d3] }
  | _ => none }
def piecewiseSlopesRow : OpenClaim := { program := "ytnekeokgognegaa", sum := "163d364804663d3e02f989c9f7db6848ead0d623a6dc139dcb7afd2dbd6033af", func := "wageoffice/wageofficelaw05.PiecewiseSlopes", spec := "piecewiseSlopes", unfollowed := true, recurses := true, apart := false }
def PiecewiseSlopesSaid : Prop := piecewiseSlopesRow.holds Try.pinned (OpenSpec.ofChange piecewiseSlopesSpec)

/-- ITS FALSE NEIGHBOUR: 'it returns false'. Refute it at one input. -/
def piecewiseSlopesWrong : ChangeSpec := { name := "piecewiseSlopes", fn := fun _ => fun
  | [d1, d2, d3] => { results := [.lit (.bool false)], args := [d1, d2, d3] }
  | _ => none }
def PiecewiseSlopesWrongFalsely : Prop := piecewiseSlopesRow.holds Try.pinned (OpenSpec.ofChange piecewiseSlopesWrong)

/- THE SECOND FORM. 'bulk': how many values and letters a reading holds, each counted each time it is reached (what is shared counts as often as it is met; a slice's spare places count too). A statement '..UptoSaid' is the law's where the arguments, and the package variables that the reading takes, are together of bulk at most 1048576: NARROWER than '..Said'. Prove '..Said' where nothing that the law and all that it calls make is longer than what came in: it says more and counts as full. Else prove '..UptoSaid'. A law counts once. -/
mutual
def uptoBulk {H : Type} : DataW H → Nat
  | .lit (.string bytes) => bytes.length + 1
  | .lit _ => 1
  | .nil => 1
  | .ptr d => uptoBulk d + 1
  | .slice elems spare => uptoBulkAll elems + uptoBulkAll spare + 1
  | .agg parts => uptoBulkAll parts + 1
  | .iface _ d => uptoBulk d + 1
  | .map entries => uptoBulkEntries entries + 1
  | .held _ => 1
def uptoBulkAll {H : Type} : List (DataW H) → Nat
  | [] => 0
  | d :: r => uptoBulk d + uptoBulkAll r
def uptoBulkEntries {H : Type} : List (Lit × DataW H) → Nat
  | [] => 0
  | x :: r => uptoBulkEntry x + uptoBulkEntries r
def uptoBulkEntry {H : Type} : Lit × DataW H → Nat
  | (.string bytes, d) => bytes.length + uptoBulk d + 1
  | (_, d) => uptoBulk d + 1
 end
def uptoSmall : (H : Type) → List (DataW H) → Bool := fun _ ds => decide (uptoBulkAll ds ≤ 1048576)
def OpenSpec.upto (s : _root_.Go.ChangeSpec) : _root_.Go.OpenSpec := { _root_.Go.OpenSpec.ofChange s with cond := some uptoSmall }

/-- 'wageofficelaw05.PiecewiseMatchesReference', WHERE WHAT IT READS IS OF BULK AT MOST 1048576: true; the input reads as it did. -/
def piecewiseMatchesReferenceUptoRow : OpenClaim := { program := "ytnekeokgognegaa", sum := "163d364804663d3e02f989c9f7db6848ead0d623a6dc139dcb7afd2dbd6033af", func := "wageoffice/wageofficelaw05.PiecewiseMatchesReference", spec := "piecewiseMatchesReference", unfollowed := true, recurses := true, apart := false, narrowed := true }
def PiecewiseMatchesReferenceUptoSaid : Prop := piecewiseMatchesReferenceUptoRow.holds Try.pinned (OpenSpec.upto piecewiseMatchesReferenceSpec)

/-- 'wageofficelaw05.PiecewiseSums', WHERE WHAT IT READS IS OF BULK AT MOST 1048576: true; the input reads as it did. -/
def piecewiseSumsUptoRow : OpenClaim := { program := "ytnekeokgognegaa", sum := "163d364804663d3e02f989c9f7db6848ead0d623a6dc139dcb7afd2dbd6033af", func := "wageoffice/wageofficelaw05.PiecewiseSums", spec := "piecewiseSums", unfollowed := true, recurses := true, apart := false, narrowed := true }
def PiecewiseSumsUptoSaid : Prop := piecewiseSumsUptoRow.holds Try.pinned (OpenSpec.upto piecewiseSumsSpec)

/-- 'wageofficelaw05.PiecewiseLeast', WHERE WHAT IT READS IS OF BULK AT MOST 1048576: true; the input reads as it did. -/
def piecewiseLeastUptoRow : OpenClaim := { program := "ytnekeokgognegaa", sum := "163d364804663d3e02f989c9f7db6848ead0d623a6dc139dcb7afd2dbd6033af", func := "wageoffice/wageofficelaw05.PiecewiseLeast", spec := "piecewiseLeast", unfollowed := true, recurses := true, apart := false, narrowed := true }
def PiecewiseLeastUptoSaid : Prop := piecewiseLeastUptoRow.holds Try.pinned (OpenSpec.upto piecewiseLeastSpec)

/-- 'wageofficelaw05.PiecewiseWhere', WHERE WHAT IT READS IS OF BULK AT MOST 1048576: true; the input reads as it did. -/
def piecewiseWhereUptoRow : OpenClaim := { program := "ytnekeokgognegaa", sum := "163d364804663d3e02f989c9f7db6848ead0d623a6dc139dcb7afd2dbd6033af", func := "wageoffice/wageofficelaw05.PiecewiseWhere", spec := "piecewiseWhere", unfollowed := true, recurses := true, apart := false, narrowed := true }
def PiecewiseWhereUptoSaid : Prop := piecewiseWhereUptoRow.holds Try.pinned (OpenSpec.upto piecewiseWhereSpec)

/-- 'wageofficelaw05.PiecewiseRounds', WHERE WHAT IT READS IS OF BULK AT MOST 1048576: true; the input reads as it did. -/
def piecewiseRoundsUptoRow : OpenClaim := { program := "ytnekeokgognegaa", sum := "163d364804663d3e02f989c9f7db6848ead0d623a6dc139dcb7afd2dbd6033af", func := "wageoffice/wageofficelaw05.PiecewiseRounds", spec := "piecewiseRounds", unfollowed := true, recurses := true, apart := false, narrowed := true }
def PiecewiseRoundsUptoSaid : Prop := piecewiseRoundsUptoRow.holds Try.pinned (OpenSpec.upto piecewiseRoundsSpec)

/-- 'wageofficelaw05.PiecewiseSlopes', WHERE WHAT IT READS IS OF BULK AT MOST 1048576: true; the input reads as it did. -/
def piecewiseSlopesUptoRow : OpenClaim := { program := "ytnekeokgognegaa", sum := "163d364804663d3e02f989c9f7db6848ead0d623a6dc139dcb7afd2dbd6033af", func := "wageoffice/wageofficelaw05.PiecewiseSlopes", spec := "piecewiseSlopes", unfollowed := true, recurses := true, apart := false, narrowed := true }
def PiecewiseSlopesUptoSaid : Prop := piecewiseSlopesUptoRow.holds Try.pinned (OpenSpec.upto piecewiseSlopesSpec)

end Rows
end Go.Proofs.Ytnekeokgognegaa
