/-
  No cell of these rows narrows 'for every input' (looked for: loops, veiled, ifaces, maps, wideKeys, modest, calm, conditions, laid).
  DERIVED. THE GIVEN ROWS OF THIS SEAT. 8 by the template 'for every input the law returns true; each argument reads behind the call as it read before'; 0 by the template 'total and deterministic' (their statements: YtlnokdkhglmogaaGreatTotals.lean).
  GIVEN WITH THE SEED: the statements are not yours to turn. If you find one false, say at which input.
  Laid BY PROGRAM, IN A SANDBOX (cutbox-rows.mjs): the forced cells as the released guide's own fill.sh prints them over the translation a8c22cae553304db… (all of the seat's roots in one cut). By AI agents, Wed Nov 11 2026. No macro, syntax, notation, axiom, sorry.
-/
import Derived.Test.YtlnokdkhglmogaaGreatChecked
import GoSem.Claim
import GoSem.ClaimJoined
import GoSem.ClaimMapViews
import Derived.JoinedTies
import Derived.KernelRfl
namespace Go.Proofs.YtlnokdkhglmogaaGreat
/- THE CELL 'sum', in the pinned program and in every row, IS THE sha256 OF THE DUMP (.gsa) THAT YtlnokdkhglmogaaGreatProg.lean LOADS. Nothing in Lean hashes anything: it is a label: what it is worth is what the hold of that sum in a sandbox is worth. -/
noncomputable def Tryz.pinned : Pinned := { name := "ytlnokdkhglmogaagreat", sum := "a8c22cae553304db23fd1979f548a27ead5f0861955a805a49d6219dad4c0769", checked := Tryz.checked }
namespace Rows
def none {H : Type} : Left H := { results := [], args := [] }

/-- 'wageofficelaw18.RosterMatchesReference': WHATEVER THE INPUT: true; the input reads as it did. -/
def rosterMatchesReferenceSpec : ChangeSpec := { name := "rosterMatchesReference", fn := fun _ => fun
  | [d1, d2] => { results := [.lit (.bool true)], args := [d1, d2] }
  | _ => none }
def rosterMatchesReferenceRow : OpenClaim := { program := "ytlnokdkhglmogaagreat", sum := "a8c22cae553304db23fd1979f548a27ead5f0861955a805a49d6219dad4c0769", func := "wageoffice/wageofficelaw18.RosterMatchesReference", spec := "rosterMatchesReference", unfollowed := true, recurses := true, plainKeys := false, apart := false }
def RosterMatchesReferenceSaid : Prop := rosterMatchesReferenceRow.holds Tryz.pinned (OpenSpec.ofChange rosterMatchesReferenceSpec)

/-- ITS FALSE NEIGHBOUR: 'it returns false'. Refute it at one input. -/
def rosterMatchesReferenceWrong : ChangeSpec := { name := "rosterMatchesReference", fn := fun _ => fun
  | [d1, d2] => { results := [.lit (.bool false)], args := [d1, d2] }
  | _ => none }
def RosterMatchesReferenceWrongFalsely : Prop := rosterMatchesReferenceRow.holds Tryz.pinned (OpenSpec.ofChange rosterMatchesReferenceWrong)

/-- 'wageofficelaw18.RosterParts': WHATEVER THE INPUT: true; the input reads as it did. -/
def rosterPartsSpec : ChangeSpec := { name := "rosterParts", fn := fun _ => fun
  | [d1, d2, d3] => { results := [.lit (.bool true)], args := [d1, d2, d3] }
  | _ => none }
def rosterPartsRow : OpenClaim := { program := "ytlnokdkhglmogaagreat", sum := "a8c22cae553304db23fd1979f548a27ead5f0861955a805a49d6219dad4c0769", func := "wageoffice/wageofficelaw18.RosterParts", spec := "rosterParts", unfollowed := true, recurses := true, plainKeys := false, apart := false }
def RosterPartsSaid : Prop := rosterPartsRow.holds Tryz.pinned (OpenSpec.ofChange rosterPartsSpec)

/-- ITS FALSE NEIGHBOUR: 'it returns false'. Refute it at one input. -/
def rosterPartsWrong : ChangeSpec := { name := "rosterParts", fn := fun _ => fun
  | [d1, d2, d3] => { results := [.lit (.bool false)], args := [d1, d2, d3] }
  | _ => none }
def RosterPartsWrongFalsely : Prop := rosterPartsRow.holds Tryz.pinned (OpenSpec.ofChange rosterPartsWrong)

/-- 'wageofficelaw18.RosterWorkers': WHATEVER THE INPUT: true; the input reads as it did. -/
def rosterWorkersSpec : ChangeSpec := { name := "rosterWorkers", fn := fun _ => fun
  | [d1, d2] => { results := [.lit (.bool true)], args := [d1, d2] }
  | _ => none }
def rosterWorkersRow : OpenClaim := { program := "ytlnokdkhglmogaagreat", sum := "a8c22cae553304db23fd1979f548a27ead5f0861955a805a49d6219dad4c0769", func := "wageoffice/wageofficelaw18.RosterWorkers", spec := "rosterWorkers", unfollowed := true, recurses := true, plainKeys := false, apart := false }
def RosterWorkersSaid : Prop := rosterWorkersRow.holds Tryz.pinned (OpenSpec.ofChange rosterWorkersSpec)

/-- ITS FALSE NEIGHBOUR: 'it returns false'. Refute it at one input. -/
def rosterWorkersWrong : ChangeSpec := { name := "rosterWorkers", fn := fun _ => fun
  | [d1, d2] => { results := [.lit (.bool false)], args := [d1, d2] }
  | _ => none }
def RosterWorkersWrongFalsely : Prop := rosterWorkersRow.holds Tryz.pinned (OpenSpec.ofChange rosterWorkersWrong)

/-- 'wageofficelaw18.RosterCost': WHATEVER THE INPUT: true; the input reads as it did. -/
def rosterCostSpec : ChangeSpec := { name := "rosterCost", fn := fun _ => fun
  | [d1, d2] => { results := [.lit (.bool true)], args := [d1, d2] }
  | _ => none }
def rosterCostRow : OpenClaim := { program := "ytlnokdkhglmogaagreat", sum := "a8c22cae553304db23fd1979f548a27ead5f0861955a805a49d6219dad4c0769", func := "wageoffice/wageofficelaw18.RosterCost", spec := "rosterCost", unfollowed := true, recurses := true, plainKeys := false, apart := false }
def RosterCostSaid : Prop := rosterCostRow.holds Tryz.pinned (OpenSpec.ofChange rosterCostSpec)

/-- ITS FALSE NEIGHBOUR: 'it returns false'. Refute it at one input. -/
def rosterCostWrong : ChangeSpec := { name := "rosterCost", fn := fun _ => fun
  | [d1, d2] => { results := [.lit (.bool false)], args := [d1, d2] }
  | _ => none }
def RosterCostWrongFalsely : Prop := rosterCostRow.holds Tryz.pinned (OpenSpec.ofChange rosterCostWrong)

/-- 'wageofficelaw18.RosterSkills': WHATEVER THE INPUT: true; the input reads as it did. -/
def rosterSkillsSpec : ChangeSpec := { name := "rosterSkills", fn := fun _ => fun
  | [d1, d2, d3] => { results := [.lit (.bool true)], args := [d1, d2, d3] }
  | _ => none }
def rosterSkillsRow : OpenClaim := { program := "ytlnokdkhglmogaagreat", sum := "a8c22cae553304db23fd1979f548a27ead5f0861955a805a49d6219dad4c0769", func := "wageoffice/wageofficelaw18.RosterSkills", spec := "rosterSkills", unfollowed := true, recurses := true, plainKeys := false, apart := false }
def RosterSkillsSaid : Prop := rosterSkillsRow.holds Tryz.pinned (OpenSpec.ofChange rosterSkillsSpec)

/-- ITS FALSE NEIGHBOUR: 'it returns false'. Refute it at one input. -/
def rosterSkillsWrong : ChangeSpec := { name := "rosterSkills", fn := fun _ => fun
  | [d1, d2, d3] => { results := [.lit (.bool false)], args := [d1, d2, d3] }
  | _ => none }
def RosterSkillsWrongFalsely : Prop := rosterSkillsRow.holds Tryz.pinned (OpenSpec.ofChange rosterSkillsWrong)

/-- 'wageofficelaw18.RosterLimits': WHATEVER THE INPUT: true; the input reads as it did. -/
def rosterLimitsSpec : ChangeSpec := { name := "rosterLimits", fn := fun _ => fun
  | [d1, d2, d3, d4, d5] => { results := [.lit (.bool true)], args := [d1, d2, d3, d4, d5] }
  | _ => none }
def rosterLimitsRow : OpenClaim := { program := "ytlnokdkhglmogaagreat", sum := "a8c22cae553304db23fd1979f548a27ead5f0861955a805a49d6219dad4c0769", func := "wageoffice/wageofficelaw18.RosterLimits", spec := "rosterLimits", unfollowed := true, recurses := true, plainKeys := false, apart := false }
def RosterLimitsSaid : Prop := rosterLimitsRow.holds Tryz.pinned (OpenSpec.ofChange rosterLimitsSpec)

/-- ITS FALSE NEIGHBOUR: 'it returns false'. Refute it at one input. -/
def rosterLimitsWrong : ChangeSpec := { name := "rosterLimits", fn := fun _ => fun
  | [d1, d2, d3, d4, d5] => { results := [.lit (.bool false)], args := [d1, d2, d3, d4, d5] }
  | _ => none }
def RosterLimitsWrongFalsely : Prop := rosterLimitsRow.holds Tryz.pinned (OpenSpec.ofChange rosterLimitsWrong)

/-- 'wageofficelaw18.RosterRest': WHATEVER THE INPUT: true; the input reads as it did. -/
def rosterRestSpec : ChangeSpec := { name := "rosterRest", fn := fun _ => fun
  | [d1, d2] => { results := [.lit (.bool true)], args := [d1, d2] }
  | _ => none }
def rosterRestRow : OpenClaim := { program := "ytlnokdkhglmogaagreat", sum := "a8c22cae553304db23fd1979f548a27ead5f0861955a805a49d6219dad4c0769", func := "wageoffice/wageofficelaw18.RosterRest", spec := "rosterRest", unfollowed := true, recurses := true, plainKeys := false, apart := false }
def RosterRestSaid : Prop := rosterRestRow.holds Tryz.pinned (OpenSpec.ofChange rosterRestSpec)

/-- ITS FALSE NEIGHBOUR: 'it returns false'. Refute it at one input. -/
def rosterRestWrong : ChangeSpec := { name := "rosterRest", fn := fun _ => fun
  | [d1, d2] => { results := [.lit (.bool false)], args := [d1, d2] }
  | _ => none }
def RosterRestWrongFalsely : Prop := rosterRestRow.holds Tryz.pinned (OpenSpec.ofChange rosterRestWrong)

/-- 'wageofficelaw18.RosterTime': WHATEVER THE INPUT: true; the input reads as it did. -/
def rosterTimeSpec : ChangeSpec := { name := "rosterTime", fn := fun _ => fun
  | [d1, d2, d3] => { results := [.lit (.bool true)], args := [d1, d2, d3] }
  | _ => none }
def rosterTimeRow : OpenClaim := { program := "ytlnokdkhglmogaagreat", sum := "a8c22cae553304db23fd1979f548a27ead5f0861955a805a49d6219dad4c0769", func := "wageoffice/wageofficelaw18.RosterTime", spec := "rosterTime", unfollowed := true, recurses := true, plainKeys := false, apart := false }
def RosterTimeSaid : Prop := rosterTimeRow.holds Tryz.pinned (OpenSpec.ofChange rosterTimeSpec)

/-- ITS FALSE NEIGHBOUR: 'it returns false'. Refute it at one input. -/
def rosterTimeWrong : ChangeSpec := { name := "rosterTime", fn := fun _ => fun
  | [d1, d2, d3] => { results := [.lit (.bool false)], args := [d1, d2, d3] }
  | _ => none }
def RosterTimeWrongFalsely : Prop := rosterTimeRow.holds Tryz.pinned (OpenSpec.ofChange rosterTimeWrong)

/- THE SECOND FORM. 'bulk': how many values and letters a reading holds, each counted each time it is reached (what is shared counts as often as it is met; a slice's spare places count too). A statement '..UptoSaid' is the law's where the arguments, and the package variables that the reading takes, are together of bulk at most 1048576: NARROWER than '..Said'. Prove '..Said' where nothing that the law and all that it calls make is longer than what came in: it says more and counts as full. Else prove '..UptoSaid'. A law counts once. -/
mutual
def uptoBulk {H : Type} : DataW H → Nat
  | .lit (.string bytes) => bytes.length + 1
  | .lit _ => 1
  | .nil => 1
  | .ptr d => uptoBulk d + 1
  | .slice elems spare => uptoBulkAll elems + uptoBulkAll spare + 1
  | .agg parts => uptoBulkAll parts + 1
  | .iface _ d => uptoBulk d + 1
  | .map entries => uptoBulkEntries entries + 1
  | .held _ => 1
def uptoBulkAll {H : Type} : List (DataW H) → Nat
  | [] => 0
  | d :: r => uptoBulk d + uptoBulkAll r
def uptoBulkEntries {H : Type} : List (Lit × DataW H) → Nat
  | [] => 0
  | x :: r => uptoBulkEntry x + uptoBulkEntries r
def uptoBulkEntry {H : Type} : Lit × DataW H → Nat
  | (.string bytes, d) => bytes.length + uptoBulk d + 1
  | (_, d) => uptoBulk d + 1
 end
def uptoSmall : (H : Type) → List (DataW H) → Bool := fun _ ds => decide (uptoBulkAll ds ≤ 1048576)
def OpenSpec.upto (s : _root_.Go.ChangeSpec) : _root_.Go.OpenSpec := { _root_.Go.OpenSpec.ofChange s with cond := some uptoSmall }

/-- 'wageofficelaw18.RosterMatchesReference', WHERE WHAT IT READS IS OF BULK AT MOST 1048576: true; the input reads as it did. -/
def rosterMatchesReferenceUptoRow : OpenClaim := { program := "ytlnokdkhglmogaagreat", sum := "a8c22cae553304db23fd1979f548a27ead5f0861955a805a49d6219dad4c0769", func := "wageoffice/wageofficelaw18.RosterMatchesReference", spec := "rosterMatchesReference", unfollowed := true, recurses := true, plainKeys := false, apart := false, narrowed := true }
def RosterMatchesReferenceUptoSaid : Prop := rosterMatchesReferenceUptoRow.holds Tryz.pinned (OpenSpec.upto rosterMatchesReferenceSpec)

/-- 'wageofficelaw18.RosterParts', WHERE WHAT IT READS IS OF BULK AT MOST 1048576: true; the input reads as it did. -/
def rosterPartsUptoRow : OpenClaim := { program := "ytlnokdkhglmogaagreat", sum := "a8c22cae553304db23fd1979f548a27ead5f0861955a805a49d6219dad4c0769", func := "wageoffice/wageofficelaw18.RosterParts", spec := "rosterParts", unfollowed := true, recurses := true, plainKeys := false, apart := false, narrowed := true }
def RosterPartsUptoSaid : Prop := rosterPartsUptoRow.holds Tryz.pinned (OpenSpec.upto rosterPartsSpec)

/-- 'wageofficelaw18.RosterWorkers', WHERE WHAT IT READS IS OF BULK AT MOST 1048576: true; the input reads as it did. -/
def rosterWorkersUptoRow : OpenClaim := { program := "ytlnokdkhglmogaagreat", sum := "a8c22cae553304db23fd1979f548a27ead5f0861955a805a49d6219dad4c0769", func := "wageoffice/wageofficelaw18.RosterWorkers", spec := "rosterWorkers", unfollowed := true, recurses := true, plainKeys := false, apart := false, narrowed := true }
def RosterWorkersUptoSaid : Prop := rosterWorkersUptoRow.holds Tryz.pinned (OpenSpec.upto rosterWorkersSpec)

/-- 'wageofficelaw18.RosterCost', WHERE WHAT IT READS IS OF BULK AT MOST 1048576: true; the input reads as it did. -/
def rosterCostUptoRow : OpenClaim := { program := "ytlnokdkhglmogaagreat", sum := "a8c22cae553304db23fd1979f548a27ead5f0861955a805a49d6219dad4c0769", func := "wageoffice/wageofficelaw18.RosterCost", spec := "rosterCost", unfollowed := true, recurses := true, plainKeys := false, apart := false, narrowed := true }
def RosterCostUptoSaid : Prop := rosterCostUptoRow.holds Tryz.pinned (OpenSpec.upto rosterCostSpec)

/-- 'wageofficelaw18.RosterSkills', WHERE WHAT IT READS IS OF BULK AT MOST 1048576: true; the input reads as it did. -/
def rosterSkillsUptoRow : OpenClaim := { program := "ytlnokdkhglmogaagreat", sum := "a8c22cae553304db23fd1979f548a27ead5f0861955a805a49d6219dad4c0769", func := "wageoffice/wageofficelaw18.RosterSkills", spec := "rosterSkills", unfollowed := true, recurses := true, plainKeys := false, apart := false, narrowed := true }
def RosterSkillsUptoSaid : Prop := rosterSkillsUptoRow.holds Tryz.pinned (OpenSpec.upto rosterSkillsSpec)

/-- 'wageofficelaw18.RosterLimits', WHERE WHAT IT READS IS OF BULK AT MOST 1048576: true; the input reads as it did. -/
def rosterLimitsUptoRow : OpenClaim := { program := "ytlnokdkhglmogaagreat", sum := "a8c22cae553304db23fd1979f548a27ead5f0861955a805a49d6219dad4c0769", func := "wageoffice/wageofficelaw18.RosterLimits", spec := "rosterLimits", unfollowed := true, recurses := true, plainKeys := false, apart := false, narrowed := true }
def RosterLimitsUptoSaid : Prop := rosterLimitsUptoRow.holds Tryz.pinned (OpenSpec.upto rosterLimitsSpec)

/-- 'wageofficelaw18.RosterRest', WHERE WHAT IT READS IS OF BULK AT MOST 1048576: true; the input reads as it did. -/
def rosterRestUptoRow : OpenClaim := { program := "ytlnokdkhglmogaagreat", sum := "a8c22cae553304db23fd1979f548a27ead5f0861955a805a49d6219dad4c0769", func := "wageoffice/wageofficelaw18.RosterRest", spec := "rosterRest", unfollowed := true, recurses := true, plainKeys := false, apart := false, narrowed := true }
def RosterRestUptoSaid : Prop := rosterRestUptoRow.holds Tryz.pinned (OpenSpec.upto rosterRestSpec)

/-- 'wageofficelaw18.RosterTime', WHERE WHAT IT READS IS OF BULK AT MOST 1048576: true; the input reads as it did. -/
def rosterTimeUptoRow : OpenClaim := { program := "ytlnokdkhglmogaagreat", sum := "a8c22cae553304db23fd1979f548a27ead5f0861955a805a49d6219dad4c0769", func := "wageoffice/wageofficelaw18.RosterTime", spec := "rosterTime", unfollowed := true, recurses := true, plainKeys := false, apart := false, narrowed := true }
def RosterTimeUptoSaid : Prop := rosterTimeUptoRow.holds Tryz.pinned (OpenSpec.upto rosterTimeSpec)

end Rows
end Go.Proofs.YtlnokdkhglmogaaGreat
