/-
  No cell of these rows narrows 'for every input' (looked for: loops, veiled, ifaces, maps, wideKeys, modest, calm, conditions, laid).
  DERIVED. THE GIVEN ROWS OF THIS SEAT. 3 by the template 'for every input the law returns true; each argument reads behind the call as it read before'; 0 by the template 'total and deterministic' (their statements: YthjllgabmgkocaaTotals.lean).
  GIVEN WITH THE SEED: the statements are not yours to turn. If you find one false, say at which input.
  Laid BY PROGRAM, IN A SANDBOX (cutbox-rows.mjs): the forced cells as the released guide's own fill.sh prints them over the translation 0ecce86fea2e4143… (all of the seat's roots in one cut). By AI agents, Wed Nov 11 2026. No macro, syntax, notation, axiom, sorry.
-/
import Derived.Test.YthjllgabmgkocaaChecked
import GoSem.Claim
import GoSem.ClaimJoined
import GoSem.ClaimMapViews
import Derived.JoinedTies
import Derived.KernelRfl
namespace Go.Proofs.Ythjllgabmgkocaa
/- THE CELL 'sum', in the pinned program and in every row, IS THE sha256 OF THE DUMP (.gsa) THAT YthjllgabmgkocaaProg.lean LOADS. Nothing in Lean hashes anything: it is a label: what it is worth is what the hold of that sum in a sandbox is worth. -/
noncomputable def Try.pinned : Pinned := { name := "ythjllgabmgkocaa", sum := "0ecce86fea2e4143c32fc59d8a960537830c467beb1064cb80692e1784a9c808", checked := Try.checked }
namespace Rows
def none {H : Type} : Left H := { results := [], args := [] }

/-- 'wageofficelaw21.RefuteBounds': WHATEVER THE INPUT: true; the input reads as it did. -/
def refuteBoundsSpec : ChangeSpec := { name := "refuteBounds", fn := fun _ => fun
  | [d1, d2, d3, d4, d5] => { results := [.lit (.bool true)], args := [d1, d2, d3, d4, d5] }
  | _ => none }
def refuteBoundsRow : OpenClaim := { program := "ythjllgabmgkocaa", sum := "0ecce86fea2e4143c32fc59d8a960537830c467beb1064cb80692e1784a9c808", func := "wageoffice/wageofficelaw21.RefuteBounds", spec := "refuteBounds", unfollowed := true, recurses := true, plainKeys := false, apart := false }
def RefuteBoundsSaid : Prop := refuteBoundsRow.holds Try.pinned (OpenSpec.ofChange refuteBoundsSpec)

/-- ITS FALSE NEIGHBOUR: 'it returns false'. Refute it at one input. -/
def refuteBoundsWrong : ChangeSpec := { name := "refuteBounds", fn := fun _ => fun
  | [d1, d2, d3, d4, d5] => { results := [.lit (.bool false)], args := [d1, d2, d3, d4, d5] }
  | _ => none }
def RefuteBoundsWrongFalsely : Prop := refuteBoundsRow.holds Try.pinned (OpenSpec.ofChange refuteBoundsWrong)

/-- 'wageofficelaw21.RefutePrefixes': WHATEVER THE INPUT: true; the input reads as it did. -/
def refutePrefixesSpec : ChangeSpec := { name := "refutePrefixes", fn := fun _ => fun
  | [d1, d2, d3, d4] => { results := [.lit (.bool true)], args := [d1, d2, d3, d4] }
  | _ => none }
def refutePrefixesRow : OpenClaim := { program := "ythjllgabmgkocaa", sum := "0ecce86fea2e4143c32fc59d8a960537830c467beb1064cb80692e1784a9c808", func := "wageoffice/wageofficelaw21.RefutePrefixes", spec := "refutePrefixes", unfollowed := true, recurses := true, plainKeys := false, apart := false }
def RefutePrefixesSaid : Prop := refutePrefixesRow.holds Try.pinned (OpenSpec.ofChange refutePrefixesSpec)

/-- ITS FALSE NEIGHBOUR: 'it returns false'. Refute it at one input. -/
def refutePrefixesWrong : ChangeSpec := { name := "refutePrefixes", fn := fun _ => fun
  | [d1, d2, d3, d4] => { results := [.lit (.bool false)], args := [d1, d2, d3, d4] }
  | _ => none }
def RefutePrefixesWrongFalsely : Prop := refutePrefixesRow.holds Try.pinned (OpenSpec.ofChange refutePrefixesWrong)

/-- 'wageofficelaw21.RefuteRenaming': WHATEVER THE INPUT: true; the input reads as it did. -/
def refuteRenamingSpec : ChangeSpec := { name := "refuteRenaming", fn := fun _ => fun
  | [d1, d2, d3, d4, d5, d6] => { results := [.lit (.bool true)], args := [d1, d2, d3, d4, d5, d6] }
  | _ => none }
def refuteRenamingRow : OpenClaim := { program := "ythjllgabmgkocaa", sum := "0ecce86fea2e4143c32fc59d8a960537830c467beb1064cb80692e1784a9c808", func := "wageoffice/wageofficelaw21.RefuteRenaming", spec := "refuteRenaming", unfollowed := true, recurses := true, plainKeys := false, apart := false }
def RefuteRenamingSaid : Prop := refuteRenamingRow.holds Try.pinned (OpenSpec.ofChange refuteRenamingSpec)

/-- ITS FALSE NEIGHBOUR: 'it returns false'. Refute it at one input. -/
def refuteRenamingWrong : ChangeSpec := { name := "refuteRenaming", fn := fun _ => fun
  | [d1, d2, d3, d4, d5, d6] => { results := [.lit (.bool false)], args := [d1, d2, d3, d4, d5, d6] }
  | _ => none }
def RefuteRenamingWrongFalsely : Prop := refuteRenamingRow.holds Try.pinned (OpenSpec.ofChange refuteRenamingWrong)

/- THE SECOND FORM. 'bulk': how many values and letters a reading holds, each counted each time it is reached (what is shared counts as often as it is met; a slice's spare places count too). A statement '..UptoSaid' is the law's where the arguments, and the package variables that the reading takes, are together of bulk at most 1048576: NARROWER than '..Said'. Prove '..Said' where nothing that the law and all that it calls make is longer than what came in: it says more and counts as full. Else prove '..UptoSaid'. A law counts once. -/
mutual
def uptoBulk {H : Type} : DataW H → Nat
  | .lit (.string bytes) => bytes.length + 1
  | .lit _ => 1
  | .nil => 1
  | .ptr d => uptoBulk d + 1
  | .slice elems spare => uptoBulkAll elems + uptoBulkAll spare + 1
  | .agg parts => uptoBulkAll parts + 1
  | .iface _ d => uptoBulk d + 1
  | .map entries => uptoBulkEntries entries + 1
  | .held _ => 1
def uptoBulkAll {H : Type} : List (DataW H) → Nat
  | [] => 0
  | d :: r => uptoBulk d + uptoBulkAll r
def uptoBulkEntries {H : Type} : List (Lit × DataW H) → Nat
  | [] => 0
  | x :: r => uptoBulkEntry x + uptoBulkEntries r
def uptoBulkEntry {H : Type} : Lit × DataW H → Nat
  | (.string bytes, d) => bytes.length + uptoBulk d + 1
  | (_, d) => uptoBulk d + 1
 end
def uptoSmall : (H : Type) → List (DataW H) → Bool := fun _ ds => decide (uptoBulkAll ds ≤ 1048576)
def OpenSpec.upto (s : _root_.Go.ChangeSpec) : _root_.Go.OpenSpec := { _root_.Go.OpenSpec.ofChange s with cond := some uptoSmall }

/-- 'wageofficelaw21.RefuteBounds', WHERE WHAT IT READS IS OF BULK AT MOST 1048576: true; the input reads as it did. -/
def refuteBoundsUptoRow : OpenClaim := { program := "ythjllgabmgkocaa", sum := "0ecce86fea2e4143c32fc59d8a960537830c467beb1064cb80692e1784a9c808", func := "wageoffice/wageofficelaw21.RefuteBounds", spec := "refuteBounds", unfollowed := true, recurses := true, plainKeys := false, apart := false, narrowed := true }
def RefuteBoundsUptoSaid : Prop := refuteBoundsUptoRow.holds Try.pinned (OpenSpec.upto refuteBoundsSpec)

/-- 'wageofficelaw21.RefutePrefixes', WHERE WHAT IT READS IS OF BULK AT MOST 1048576: true; the input reads as it did. -/
def refutePrefixesUptoRow : OpenClaim := { program := "ythjllgabmgkocaa", sum := "0ecce86fea2e4143c32fc59d8a960537830c467beb1064cb80692e1784a9c808", func := "wageoffice/wageofficelaw21.RefutePrefixes", spec := "refutePrefixes", unfollowed := true, recurses := true, plainKeys := false, apart := false, narrowed := true }
def RefutePrefixesUptoSaid : Prop := refutePrefixesUptoRow.holds Try.pinned (OpenSpec.upto refutePrefixesSpec)

/-- 'wageofficelaw21.RefuteRenaming', WHERE WHAT IT READS IS OF BULK AT MOST 1048576: true; the input reads as it did. -/
def refuteRenamingUptoRow : OpenClaim := { program := "ythjllgabmgkocaa", sum := "0ecce86fea2e4143c32fc59d8a960537830c467beb1064cb80692e1784a9c808", func := "wageoffice/wageofficelaw21.RefuteRenaming", spec := "refuteRenaming", unfollowed := true, recurses := true, plainKeys := false, apart := false, narrowed := true }
def RefuteRenamingUptoSaid : Prop := refuteRenamingUptoRow.holds Try.pinned (OpenSpec.upto refuteRenamingSpec)

end Rows
end Go.Proofs.Ythjllgabmgkocaa
