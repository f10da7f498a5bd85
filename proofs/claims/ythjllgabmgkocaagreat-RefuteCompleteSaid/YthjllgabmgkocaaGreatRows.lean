/-
  No cell of these rows narrows 'for every input' (looked for: loops, veiled, ifaces, maps, wideKeys, modest, calm, conditions, laid).
  DERIVED. THE GIVEN ROWS OF THIS SEAT. 4 by the template 'for every input the law returns true; each argument reads behind the call as it read before'; 0 by the template 'total and deterministic' (their statements: YthjllgabmgkocaaGreatTotals.lean).
  GIVEN WITH THE SEED: the statements are not yours to turn. If you find one false, say at which input.
  Laid BY PROGRAM, IN A SANDBOX (cutbox-rows.mjs): the forced cells as the released guide's own fill.sh prints them over the translation 7132bcc042ce70c0… (all of the seat's roots in one cut). By AI agents, Wed Nov 11 2026. No macro, syntax, notation, axiom, sorry.
-/
import Derived.Test.YthjllgabmgkocaaGreatChecked
import GoSem.Claim
import GoSem.ClaimJoined
import GoSem.ClaimMapViews
import Derived.JoinedTies
import Derived.KernelRfl
namespace Go.Proofs.YthjllgabmgkocaaGreat
/- THE CELL 'sum', in the pinned program and in every row, IS THE sha256 OF THE DUMP (.gsa) THAT YthjllgabmgkocaaGreatProg.lean LOADS. Nothing in Lean hashes anything: it is a label: what it is worth is what the hold of that sum in a sandbox is worth. -/
noncomputable def Tryz.pinned : Pinned := { name := "ythjllgabmgkocaagreat", sum := "7132bcc042ce70c0fcc7690ea1a35a2a36688ca251dd1b9a1351665c226b42ea", checked := Tryz.checked }
namespace Rows
def none {H : Type} : Left H := { results := [], args := [] }

/-- 'wageofficelaw21.RefuteMatchesReference': WHATEVER THE INPUT: true; the input reads as it did. -/
def refuteMatchesReferenceSpec : ChangeSpec := { name := "refuteMatchesReference", fn := fun _ => fun
  | [d1, d2, d3, d4] => { results := [.lit (.bool true)], args := [d1, d2, d3, d4] }
  | _ => none }
def refuteMatchesReferenceRow : OpenClaim := { program := "ythjllgabmgkocaagreat", sum := "7132bcc042ce70c0fcc7690ea1a35a2a36688ca251dd1b9a1351665c226b42ea", func := "wageoffice/wageofficelaw21.RefuteMatchesReference", spec := "refuteMatchesReference", unfollowed := true, recurses := true, plainKeys := false, apart := false }
def RefuteMatchesReferenceSaid : Prop := refuteMatchesReferenceRow.holds Tryz.pinned (OpenSpec.ofChange refuteMatchesReferenceSpec)

/-- ITS FALSE NEIGHBOUR: 'it returns false'. Refute it at one input. -/
def refuteMatchesReferenceWrong : ChangeSpec := { name := "refuteMatchesReference", fn := fun _ => fun
  | [d1, d2, d3, d4] => { results := [.lit (.bool false)], args := [d1, d2, d3, d4] }
  | _ => none }
def RefuteMatchesReferenceWrongFalsely : Prop := refuteMatchesReferenceRow.holds Tryz.pinned (OpenSpec.ofChange refuteMatchesReferenceWrong)

/-- 'wageofficelaw21.RefuteSound': WHATEVER THE INPUT: true; the input reads as it did. -/
def refuteSoundSpec : ChangeSpec := { name := "refuteSound", fn := fun _ => fun
  | [d1, d2, d3, d4] => { results := [.lit (.bool true)], args := [d1, d2, d3, d4] }
  | _ => none }
def refuteSoundRow : OpenClaim := { program := "ythjllgabmgkocaagreat", sum := "7132bcc042ce70c0fcc7690ea1a35a2a36688ca251dd1b9a1351665c226b42ea", func := "wageoffice/wageofficelaw21.RefuteSound", spec := "refuteSound", unfollowed := true, recurses := true, plainKeys := false, apart := false }
def RefuteSoundSaid : Prop := refuteSoundRow.holds Tryz.pinned (OpenSpec.ofChange refuteSoundSpec)

/-- ITS FALSE NEIGHBOUR: 'it returns false'. Refute it at one input. -/
def refuteSoundWrong : ChangeSpec := { name := "refuteSound", fn := fun _ => fun
  | [d1, d2, d3, d4] => { results := [.lit (.bool false)], args := [d1, d2, d3, d4] }
  | _ => none }
def RefuteSoundWrongFalsely : Prop := refuteSoundRow.holds Tryz.pinned (OpenSpec.ofChange refuteSoundWrong)

/-- 'wageofficelaw21.RefuteSteps': WHATEVER THE INPUT: true; the input reads as it did. -/
def refuteStepsSpec : ChangeSpec := { name := "refuteSteps", fn := fun _ => fun
  | [d1, d2, d3, d4] => { results := [.lit (.bool true)], args := [d1, d2, d3, d4] }
  | _ => none }
def refuteStepsRow : OpenClaim := { program := "ythjllgabmgkocaagreat", sum := "7132bcc042ce70c0fcc7690ea1a35a2a36688ca251dd1b9a1351665c226b42ea", func := "wageoffice/wageofficelaw21.RefuteSteps", spec := "refuteSteps", unfollowed := true, recurses := true, plainKeys := false, apart := false }
def RefuteStepsSaid : Prop := refuteStepsRow.holds Tryz.pinned (OpenSpec.ofChange refuteStepsSpec)

/-- ITS FALSE NEIGHBOUR: 'it returns false'. Refute it at one input. -/
def refuteStepsWrong : ChangeSpec := { name := "refuteSteps", fn := fun _ => fun
  | [d1, d2, d3, d4] => { results := [.lit (.bool false)], args := [d1, d2, d3, d4] }
  | _ => none }
def RefuteStepsWrongFalsely : Prop := refuteStepsRow.holds Tryz.pinned (OpenSpec.ofChange refuteStepsWrong)

/-- 'wageofficelaw21.RefuteComplete': WHATEVER THE INPUT: true; the input reads as it did. -/
def refuteCompleteSpec : ChangeSpec := { name := "refuteComplete", fn := fun _ => fun
  | [d1, d2] => { results := [.lit (.bool true)], args := [d1, d2] }
  | _ => none }
def refuteCompleteRow : OpenClaim := { program := "ythjllgabmgkocaagreat", sum := "7132bcc042ce70c0fcc7690ea1a35a2a36688ca251dd1b9a1351665c226b42ea", func := "wageoffice/wageofficelaw21.RefuteComplete", spec := "refuteComplete", unfollowed := true, recurses := true, plainKeys := false, apart := false }
def RefuteCompleteSaid : Prop := refuteCompleteRow.holds Tryz.pinned (OpenSpec.ofChange refuteCompleteSpec)

/-- ITS FALSE NEIGHBOUR: 'it returns false'. Refute it at one input. -/
def refuteCompleteWrong : ChangeSpec := { name := "refuteComplete", fn := fun _ => fun
  | [d1, d2] => { results := [.lit (.bool false)], args := [d1, d2] }
  | _ => none }
def RefuteCompleteWrongFalsely : Prop := refuteCompleteRow.holds Tryz.pinned (OpenSpec.ofChange refuteCompleteWrong)

/- THE SECOND FORM. 'bulk': how many values and letters a reading holds, each counted each time it is reached (what is shared counts as often as it is met; a slice's spare places count too). A statement '..UptoSaid' is the law's where the arguments, and the package variables that the reading takes, are together of bulk at most 1048576: NARROWER than '..Said'. Prove '..Said' where nothing that the law and all that it calls make is longer than what came in: it says more and counts as full. Else prove '..UptoSaid'. A law counts once. -/
mutual
def uptoBulk {H : Type} : DataW H → Nat
  | .lit (.string bytes) => bytes.length + 1
  | .lit _ => 1
  | .nil => 1
  | .ptr d => uptoBulk d + 1
  | .slice elems spare => uptoBulkAll elems + uptoBulkAll spare + 1
  | .agg parts => uptoBulkAll parts + 1
  | .iface _ d => uptoBulk d + 1
  | .map entries => uptoBulkEntries entries + 1
  | .held _ => 1
def uptoBulkAll {H : Type} : List (DataW H) → Nat
  | [] => 0
  | d :: r => uptoBulk d + uptoBulkAll r
def uptoBulkEntries {H : Type} : List (Lit × DataW H) → Nat
  | [] => 0
  | x :: r => uptoBulkEntry x + uptoBulkEntries r
def uptoBulkEntry {H : Type} : Lit × DataW H → Nat
  | (.string bytes, d) => bytes.length + uptoBulk d + 1
  | (_, d) => uptoBulk d + 1
 end
def uptoSmall : (H : Type) → List (DataW H) → Bool := fun _ ds => decide (uptoBulkAll ds ≤ 1048576)
def OpenSpec.upto (s : _root_.Go.ChangeSpec) : _root_.Go.OpenSpec := { _root_.Go.OpenSpec.ofChange s with cond := some uptoSmall }

/-- 'wageofficelaw21.RefuteMatchesReference', WHERE WHAT IT READS IS OF BULK AT MOST 1048576: true; the input reads as it did. -/
def refuteMatchesReferenceUptoRow : OpenClaim := { program := "ythjllgabmgkocaagreat", sum := "7132bcc042ce70c0fcc7690ea1a35a2a36688ca251dd1b9a1351665c226b42ea", func := "wageoffice/wageofficelaw21.RefuteMatchesReference", spec := "refuteMatchesReference", unfollowed := true, recurses := true, plainKeys := false, apart := false, narrowed := true }
def RefuteMatchesReferenceUptoSaid : Prop := refuteMatchesReferenceUptoRow.holds Tryz.pinned (OpenSpec.upto refuteMatchesReferenceSpec)

/-- 'wageofficelaw21.RefuteSound', WHERE WHAT IT READS IS OF BULK AT MOST 1048576: true; the input reads as it did. -/
def refuteSoundUptoRow : OpenClaim := { program := "ythjllgabmgkocaagreat", sum := "7132bcc042ce70c0fcc7690ea1a35a2a36688ca251dd1b9a1351665c226b42ea", func := "wageoffice/wageofficelaw21.RefuteSound", spec := "refuteSound", unfollowed := true, recurses := true, plainKeys := false, apart := false, narrowed := true }
def RefuteSoundUptoSaid : Prop := refuteSoundUptoRow.holds Tryz.pinned (OpenSpec.upto refuteSoundSpec)

/-- 'wageofficelaw21.RefuteSteps', WHERE WHAT IT READS IS OF BULK AT MOST 1048576: true; the input reads as it did. -/
def refuteStepsUptoRow : OpenClaim := { program := "ythjllgabmgkocaagreat", sum := "7132bcc042ce70c0fcc7690ea1a35a2a36688ca251dd1b9a1351665c226b42ea", func := "wageoffice/wageofficelaw21.RefuteSteps", spec := "refuteSteps", unfollowed := true, recurses := true, plainKeys := false, apart := false, narrowed := true }
def RefuteStepsUptoSaid : Prop := refuteStepsUptoRow.holds Tryz.pinned (OpenSpec.upto refuteStepsSpec)

/-- 'wageofficelaw21.RefuteComplete', WHERE WHAT IT READS IS OF BULK AT MOST 1048576: true; the input reads as it did. -/
def refuteCompleteUptoRow : OpenClaim := { program := "ythjllgabmgkocaagreat", sum := "7132bcc042ce70c0fcc7690ea1a35a2a36688ca251dd1b9a1351665c226b42ea", func := "wageoffice/wageofficelaw21.RefuteComplete", spec := "refuteComplete", unfollowed := true, recurses := true, plainKeys := false, apart := false, narrowed := true }
def RefuteCompleteUptoSaid : Prop := refuteCompleteUptoRow.holds Tryz.pinned (OpenSpec.upto refuteCompleteSpec)

end Rows
end Go.Proofs.YthjllgabmgkocaaGreat
