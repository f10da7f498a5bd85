/-
  No cell of these rows narrows 'for every input' (looked for: loops, veiled, ifaces, maps, wideKeys, modest, calm, conditions, laid).
  DERIVED. THE GIVEN ROWS OF THIS SEAT. 6 by the template 'for every input the law returns true; each argument reads behind the call as it read before'; 0 by the template 'total and deterministic' (their statements: YtecemgicnboaaaaGreatTotals.lean).
  GIVEN WITH THE SEED: the statements are not yours to turn. If you find one false, say at which input.
  Laid BY PROGRAM, IN A SANDBOX (cutbox-rows.mjs): the forced cells as the released guide's own fill.sh prints them over the translation dc95391d617eb52a… (all of the seat's roots in one cut). By AI agents, Wed Nov 11 2026. No macro, syntax, notation, axiom, sorry.
-/
import Derived.Test.YtecemgicnboaaaaGreatChecked
import GoSem.Claim
import GoSem.ClaimJoined
import GoSem.ClaimMapViews
import Derived.JoinedTies
import Derived.KernelRfl
namespace Go.Proofs.YtecemgicnboaaaaGreat
/- THE CELL 'sum', in the pinned program and in every row, IS THE sha256 OF THE DUMP (.gsa) THAT YtecemgicnboaaaaGreatProg.lean LOADS. Nothing in Lean hashes anything: it is a label: what it is worth is what the hold of that sum in a sandbox is worth. -/
noncomputable def Tryz.pinned : Pinned := { name := "ytecemgicnboaaaagreat", sum := "dc95391d617eb52a56555e4a22de07ca47480740a7c22ac83c4fbc435816c449", checked := Tryz.checked }
namespace Rows
def none {H : Type} : Left H := { results := [], args := [] }

/-- 'wageofficelaw20.PlannerMatchesReference': WHATEVER THE INPUT: true; the input reads as it did. -/
def plannerMatchesReferenceSpec : ChangeSpec := { name := "plannerMatchesReference", fn := fun _ => fun
  | [d1, d2] => { results := [.lit (.bool true)], args := [d1, d2] }
  | _ => none }
def plannerMatchesReferenceRow : OpenClaim := { program := "ytecemgicnboaaaagreat", sum := "dc95391d617eb52a56555e4a22de07ca47480740a7c22ac83c4fbc435816c449", func := "wageoffice/wageofficelaw20.PlannerMatchesReference", spec := "plannerMatchesReference", unfollowed := true, recurses := true, apart := false }
def PlannerMatchesReferenceSaid : Prop := plannerMatchesReferenceRow.holds Tryz.pinned (OpenSpec.ofChange plannerMatchesReferenceSpec)

/-- ITS FALSE NEIGHBOUR: 'it returns false'. Refute it at one input. -/
def plannerMatchesReferenceWrong : ChangeSpec := { name := "plannerMatchesReference", fn := fun _ => fun
  | [d1, d2] => { results := [.lit (.bool false)], args := [d1, d2] }
  | _ => none }
def PlannerMatchesReferenceWrongFalsely : Prop := plannerMatchesReferenceRow.holds Tryz.pinned (OpenSpec.ofChange plannerMatchesReferenceWrong)

/-- 'wageofficelaw20.PlannerRefutes': WHATEVER THE INPUT: true; the input reads as it did. -/
def plannerRefutesSpec : ChangeSpec := { name := "plannerRefutes", fn := fun _ => fun
  | [d1, d2] => { results := [.lit (.bool true)], args := [d1, d2] }
  | _ => none }
def plannerRefutesRow : OpenClaim := { program := "ytecemgicnboaaaagreat", sum := "dc95391d617eb52a56555e4a22de07ca47480740a7c22ac83c4fbc435816c449", func := "wageoffice/wageofficelaw20.PlannerRefutes", spec := "plannerRefutes", unfollowed := true, recurses := true, apart := false }
def PlannerRefutesSaid : Prop := plannerRefutesRow.holds Tryz.pinned (OpenSpec.ofChange plannerRefutesSpec)

/-- ITS FALSE NEIGHBOUR: 'it returns false'. Refute it at one input. -/
def plannerRefutesWrong : ChangeSpec := { name := "plannerRefutes", fn := fun _ => fun
  | [d1, d2] => { results := [.lit (.bool false)], args := [d1, d2] }
  | _ => none }
def PlannerRefutesWrongFalsely : Prop := plannerRefutesRow.holds Tryz.pinned (OpenSpec.ofChange plannerRefutesWrong)

/-- 'wageofficelaw20.PlannerRelaxed': WHATEVER THE INPUT: true; the input reads as it did. -/
def plannerRelaxedSpec : ChangeSpec := { name := "plannerRelaxed", fn := fun _ => fun
  | [d1, d2, d3, d4] => { results := [.lit (.bool true)], args := [d1, d2, d3, d4] }
  | _ => none }
def plannerRelaxedRow : OpenClaim := { program := "ytecemgicnboaaaagreat", sum := "dc95391d617eb52a56555e4a22de07ca47480740a7c22ac83c4fbc435816c449", func := "wageoffice/wageofficelaw20.PlannerRelaxed", spec := "plannerRelaxed", unfollowed := true, recurses := true, apart := false }
def PlannerRelaxedSaid : Prop := plannerRelaxedRow.holds Tryz.pinned (OpenSpec.ofChange plannerRelaxedSpec)

/-- ITS FALSE NEIGHBOUR: 'it returns false'. Refute it at one input. -/
def plannerRelaxedWrong : ChangeSpec := { name := "plannerRelaxed", fn := fun _ => fun
  | [d1, d2, d3, d4] => { results := [.lit (.bool false)], args := [d1, d2, d3, d4] }
  | _ => none }
def PlannerRelaxedWrongFalsely : Prop := plannerRelaxedRow.holds Tryz.pinned (OpenSpec.ofChange plannerRelaxedWrong)

/-- 'wageofficelaw20.PlannerRenamed': WHATEVER THE INPUT: true; the input reads as it did. -/
def plannerRenamedSpec : ChangeSpec := { name := "plannerRenamed", fn := fun _ => fun
  | [d1, d2, d3] => { results := [.lit (.bool true)], args := [d1, d2, d3] }
  | _ => none }
def plannerRenamedRow : OpenClaim := { program := "ytecemgicnboaaaagreat", sum := "dc95391d617eb52a56555e4a22de07ca47480740a7c22ac83c4fbc435816c449", func := "wageoffice/wageofficelaw20.PlannerRenamed", spec := "plannerRenamed", unfollowed := true, recurses := true, apart := false }
def PlannerRenamedSaid : Prop := plannerRenamedRow.holds Tryz.pinned (OpenSpec.ofChange plannerRenamedSpec)

/-- ITS FALSE NEIGHBOUR: 'it returns false'. Refute it at one input. -/
def plannerRenamedWrong : ChangeSpec := { name := "plannerRenamed", fn := fun _ => fun
  | [d1, d2, d3] => { results := [.lit (.bool false)], args := [d1, d2, d3] }
  | _ => none }
def PlannerRenamedWrongFalsely : Prop := plannerRenamedRow.holds Tryz.pinned (OpenSpec.ofChange plannerRenamedWrong)

/-- 'wageofficelaw20.PlannerWorkable': WHATEVER THE INPUT: true; the input reads as it did. -/
def plannerWorkableSpec : ChangeSpec := { name := "plannerWorkable", fn := fun _ => fun
  | [d] => { results := [.lit (.bool true)], args := [d] }
  | _ => none }
def plannerWorkableRow : OpenClaim := { program := "ytecemgicnboaaaagreat", sum := "dc95391d617eb52a56555e4a22de07ca47480740a7c22ac83c4fbc435816c449", func := "wageoffice/wageofficelaw20.PlannerWorkable", spec := "plannerWorkable", unfollowed := true, recurses := true, apart := false }
def PlannerWorkableSaid : Prop := plannerWorkableRow.holds Tryz.pinned (OpenSpec.ofChange plannerWorkableSpec)

/-- ITS FALSE NEIGHBOUR: 'it returns false'. Refute it at one input. -/
def plannerWorkableWrong : ChangeSpec := { name := "plannerWorkable", fn := fun _ => fun
  | [d] => { results := [.lit (.bool false)], args := [d] }
  | _ => none }
def PlannerWorkableWrongFalsely : Prop := plannerWorkableRow.holds Tryz.pinned (OpenSpec.ofChange plannerWorkableWrong)

/-- 'wageofficelaw20.PlannerLeast': WHATEVER THE INPUT: true; the input reads as it did. -/
def plannerLeastSpec : ChangeSpec := { name := "plannerLeast", fn := fun _ => fun
  | [d1, d2] => { results := [.lit (.bool true)], args := [d1, d2] }
  | _ => none }
def plannerLeastRow : OpenClaim := { program := "ytecemgicnboaaaagreat", sum := "dc95391d617eb52a56555e4a22de07ca47480740a7c22ac83c4fbc435816c449", func := "wageoffice/wageofficelaw20.PlannerLeast", spec := "plannerLeast", unfollowed := true, recurses := true, apart := false }
def PlannerLeastSaid : Prop := plannerLeastRow.holds Tryz.pinned (OpenSpec.ofChange plannerLeastSpec)

/-- ITS FALSE NEIGHBOUR: 'it returns false'. Refute it at one input. -/
def plannerLeastWrong : ChangeSpec := { name := "plannerLeast", fn := fun _ => fun
  | [d1, d2] => { results := [.lit (.bool false)], args := [d1, d2] }
  | _ => none }
def PlannerLeastWrongFalsely : Prop := plannerLeastRow.holds Tryz.pinned (OpenSpec.ofChange plannerLeastWrong)

/- THE SECOND FORM. 'bulk': how many values and letters a reading holds, each counted each time it is reached (what is shared counts as often as it is met; a slice's spare places count too). A statement '..UptoSaid' is the law's where the arguments, and the package variables that the reading takes, are together of bulk at most 1048576: NARROWER than '..Said'. Prove '..Said' where nothing that the law and all that it calls make is longer than what came in: it says more and counts as full. Else prove '..UptoSaid'. A law counts once. -/
mutual
def uptoBulk {H : Type} : DataW H → Nat
  | .lit (.string bytes) => bytes.length + 1
  | .lit _ => 1
  | .nil => 1
  | .ptr d => uptoBulk d + 1
  | .slice elems spare => uptoBulkAll elems + uptoBulkAll spare + 1
  | .agg parts => uptoBulkAll parts + 1
  | .iface _ d => uptoBulk d + 1
  | .map entries => uptoBulkEntries entries + 1
  | .held _ => 1
def uptoBulkAll {H : Type} : List (DataW H) → Nat
  | [] => 0
  | d :: r => uptoBulk d + uptoBulkAll r
def uptoBulkEntries {H : Type} : List (Lit × DataW H) → Nat
  | [] => 0
  | x :: r => uptoBulkEntry x + uptoBulkEntries r
def uptoBulkEntry {H : Type} : Lit × DataW H → Nat
  | (.string bytes, d) => bytes.length + uptoBulk d + 1
  | (_, d) => uptoBulk d + 1
 end
def uptoSmall : (H : Type) → List (DataW H) → Bool := fun _ ds => decide (uptoBulkAll ds ≤ 1048576)
def OpenSpec.upto (s : _root_.Go.ChangeSpec) : _root_.Go.OpenSpec := { _root_.Go.OpenSpec.ofChange s with cond := some uptoSmall }

/-- 'wageofficelaw20.PlannerMatchesReference', WHERE WHAT IT READS IS OF BULK AT MOST 1048576: true; the input reads as it did. -/
def plannerMatchesReferenceUptoRow : OpenClaim := { program := "ytecemgicnboaaaagreat", sum := "dc95391d617eb52a56555e4a22de07ca47480740a7c22ac83c4fbc435816c449", func := "wageoffice/wageofficelaw20.PlannerMatchesReference", spec := "plannerMatchesReference", unfollowed := true, recurses := true, apart := false, narrowed := true }
def PlannerMatchesReferenceUptoSaid : Prop := plannerMatchesReferenceUptoRow.holds Tryz.pinned (OpenSpec.upto plannerMatchesReferenceSpec)

/-- 'wageofficelaw20.PlannerRefutes', WHERE WHAT IT READS IS OF BULK AT MOST 1048576: true; the input reads as it did. -/
def plannerRefutesUptoRow : OpenClaim := { program := "ytecemgicnboaaaagreat", sum := "dc95391d617eb52a56555e4a22de07ca47480740a7c22ac83c4fbc435816c449", func := "wageoffice/wageofficelaw20.PlannerRefutes", spec := "plannerRefutes", unfollowed := true, recurses := true, apart := false, narrowed := true }
def PlannerRefutesUptoSaid : Prop := plannerRefutesUptoRow.holds Tryz.pinned (OpenSpec.upto plannerRefutesSpec)

/-- 'wageofficelaw20.PlannerRelaxed', WHERE WHAT IT READS IS OF BULK AT MOST 1048576: true; the input reads as it did. -/
def plannerRelaxedUptoRow : OpenClaim := { program := "ytecemgicnboaaaagreat", sum := "dc95391d617eb52a56555e4a22de07ca47480740a7c22ac83c4fbc435816c449", func := "wageoffice/wageofficelaw20.PlannerRelaxed", spec := "plannerRelaxed", unfollowed := true, recurses := true, apart := false, narrowed := true }
def PlannerRelaxedUptoSaid : Prop := plannerRelaxedUptoRow.holds Tryz.pinned (OpenSpec.upto plannerRelaxedSpec)

/-- 'wageofficelaw20.PlannerRenamed', WHERE WHAT IT READS IS OF BULK AT MOST 1048576: true; the input reads as it did. -/
def plannerRenamedUptoRow : OpenClaim := { program := "ytecemgicnboaaaagreat", sum := "dc95391d617eb52a56555e4a22de07ca47480740a7c22ac83c4fbc435816c449", func := "wageoffice/wageofficelaw20.PlannerRenamed", spec := "plannerRenamed", unfollowed := true, recurses := true, apart := false, narrowed := true }
def PlannerRenamedUptoSaid : Prop := plannerRenamedUptoRow.holds Tryz.pinned (OpenSpec.upto plannerRenamedSpec)

/-- 'wageofficelaw20.PlannerWorkable', WHERE WHAT IT READS IS OF BULK AT MOST 1048576: true; the input reads as it did. -/
def plannerWorkableUptoRow : OpenClaim := { program := "ytecemgicnboaaaagreat", sum := "dc95391d617eb52a56555e4a22de07ca47480740a7c22ac83c4fbc435816c449", func := "wageoffice/wageofficelaw20.PlannerWorkable", spec := "plannerWorkable", unfollowed := true, recurses := true, apart := false, narrowed := true }
def PlannerWorkableUptoSaid : Prop := plannerWorkableUptoRow.holds Tryz.pinned (OpenSpec.upto plannerWorkableSpec)

/-- 'wageofficelaw20.PlannerLeast', WHERE WHAT IT READS IS OF BULK AT MOST 1048576: true; the input reads as it did. -/
def plannerLeastUptoRow : OpenClaim := { program := "ytecemgicnboaaaagreat", sum := "dc95391d617eb52a56555e4a22de07ca47480740a7c22ac83c4fbc435816c449", func := "wageoffice/wageofficelaw20.PlannerLeast", spec := "plannerLeast", unfollowed := true, recurses := true, apart := false, narrowed := true }
def PlannerLeastUptoSaid : Prop := plannerLeastUptoRow.holds Tryz.pinned (OpenSpec.upto plannerLeastSpec)

end Rows
end Go.Proofs.YtecemgicnboaaaaGreat
