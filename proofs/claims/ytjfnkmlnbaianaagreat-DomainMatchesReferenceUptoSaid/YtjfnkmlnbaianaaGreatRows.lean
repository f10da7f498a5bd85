/-
  No cell of these rows narrows 'for every input' (looked for: loops, veiled, ifaces, maps, wideKeys, modest, calm, conditions, laid).
  DERIVED. THE GIVEN ROWS OF THIS SEAT. 7 by the template 'for every input the law returns true; each argument reads behind the call as it read before'; 0 by the template 'total and deterministic' (their statements: YtjfnkmlnbaianaaGreatTotals.lean).
  GIVEN WITH THE SEED: the statements are not yours to turn. If you find one false, say at which input.
  Laid BY PROGRAM, IN A SANDBOX (cutbox-rows.mjs): the forced cells as the released guide's own fill.sh prints them over the translation 03cc99498b9ddc75… (all of the seat's roots in one cut). By AI agents, Wed Nov 11 2026. No macro, syntax, notation, axiom, sorry.
-/
import Derived.Test.YtjfnkmlnbaianaaGreatChecked
import GoSem.Claim
import GoSem.ClaimJoined
import GoSem.ClaimMapViews
import Derived.JoinedTies
import Derived.KernelRfl
namespace Go.Proofs.YtjfnkmlnbaianaaGreat
/- THE CELL 'sum', in the pinned program and in every row, IS THE sha256 OF THE DUMP (.gsa) THAT YtjfnkmlnbaianaaGreatProg.lean LOADS. Nothing in Lean hashes anything: it is a label: what it is worth is what the hold of that sum in a sandbox is worth. -/
noncomputable def Tryz.pinned : Pinned := { name := "ytjfnkmlnbaianaagreat", sum := "03cc99498b9ddc759b9e1f81a17b798ee4e8b167e72a11a15da86ab6075e03e7", checked := Tryz.checked }
namespace Rows
def none {H : Type} : Left H := { results := [], args := [] }

/-- 'wageofficelaw19.DomainMatchesReference': WHATEVER THE INPUT: true; the input reads as it did. -/
def domainMatchesReferenceSpec : ChangeSpec := { name := "domainMatchesReference", fn := fun _ => fun
  | [d1, d2, d3] => { results := [.lit (.bool true)], args := [d1, d2, d3] }
  | _ => none }
def domainMatchesReferenceRow : OpenClaim := { program := "ytjfnkmlnbaianaagreat", sum := "03cc99498b9ddc759b9e1f81a17b798ee4e8b167e72a11a15da86ab6075e03e7", func := "wageoffice/wageofficelaw19.DomainMatchesReference", spec := "domainMatchesReference", unfollowed := true, recurses := true, plainKeys := false, apart := false }
def DomainMatchesReferenceSaid : Prop := domainMatchesReferenceRow.holds Tryz.pinned (OpenSpec.ofChange domainMatchesReferenceSpec)

/-- ITS FALSE NEIGHBOUR: 'it returns false'. Refute it at one input. -/
def domainMatchesReferenceWrong : ChangeSpec := { name := "domainMatchesReference", fn := fun _ => fun
  | [d1, d2, d3] => { results := [.lit (.bool false)], args := [d1, d2, d3] }
  | _ => none }
def DomainMatchesReferenceWrongFalsely : Prop := domainMatchesReferenceRow.holds Tryz.pinned (OpenSpec.ofChange domainMatchesReferenceWrong)

/-- 'wageofficelaw19.DomainSoundness': WHATEVER THE INPUT: true; the input reads as it did. -/
def domainSoundnessSpec : ChangeSpec := { name := "domainSoundness", fn := fun _ => fun
  | [d1, d2, d3] => { results := [.lit (.bool true)], args := [d1, d2, d3] }
  | _ => none }
def domainSoundnessRow : OpenClaim := { program := "ytjfnkmlnbaianaagreat", sum := "03cc99498b9ddc759b9e1f81a17b798ee4e8b167e72a11a15da86ab6075e03e7", func := "wageoffice/wageofficelaw19.DomainSoundness", spec := "domainSoundness", unfollowed := true, recurses := true, plainKeys := false, apart := false }
def DomainSoundnessSaid : Prop := domainSoundnessRow.holds Tryz.pinned (OpenSpec.ofChange domainSoundnessSpec)

/-- ITS FALSE NEIGHBOUR: 'it returns false'. Refute it at one input. -/
def domainSoundnessWrong : ChangeSpec := { name := "domainSoundness", fn := fun _ => fun
  | [d1, d2, d3] => { results := [.lit (.bool false)], args := [d1, d2, d3] }
  | _ => none }
def DomainSoundnessWrongFalsely : Prop := domainSoundnessRow.holds Tryz.pinned (OpenSpec.ofChange domainSoundnessWrong)

/-- 'wageofficelaw19.DomainClosure': WHATEVER THE INPUT: true; the input reads as it did. -/
def domainClosureSpec : ChangeSpec := { name := "domainClosure", fn := fun _ => fun
  | [d1, d2] => { results := [.lit (.bool true)], args := [d1, d2] }
  | _ => none }
def domainClosureRow : OpenClaim := { program := "ytjfnkmlnbaianaagreat", sum := "03cc99498b9ddc759b9e1f81a17b798ee4e8b167e72a11a15da86ab6075e03e7", func := "wageoffice/wageofficelaw19.DomainClosure", spec := "domainClosure", unfollowed := true, recurses := true, plainKeys := false, apart := false }
def DomainClosureSaid : Prop := domainClosureRow.holds Tryz.pinned (OpenSpec.ofChange domainClosureSpec)

/-- ITS FALSE NEIGHBOUR: 'it returns false'. Refute it at one input. -/
def domainClosureWrong : ChangeSpec := { name := "domainClosure", fn := fun _ => fun
  | [d1, d2] => { results := [.lit (.bool false)], args := [d1, d2] }
  | _ => none }
def DomainClosureWrongFalsely : Prop := domainClosureRow.holds Tryz.pinned (OpenSpec.ofChange domainClosureWrong)

/-- 'wageofficelaw19.DomainOrder': WHATEVER THE INPUT: true; the input reads as it did. -/
def domainOrderSpec : ChangeSpec := { name := "domainOrder", fn := fun _ => fun
  | [d1, d2, d3] => { results := [.lit (.bool true)], args := [d1, d2, d3] }
  | _ => none }
def domainOrderRow : OpenClaim := { program := "ytjfnkmlnbaianaagreat", sum := "03cc99498b9ddc759b9e1f81a17b798ee4e8b167e72a11a15da86ab6075e03e7", func := "wageoffice/wageofficelaw19.DomainOrder", spec := "domainOrder", unfollowed := true, recurses := true, plainKeys := false, apart := false }
def DomainOrderSaid : Prop := domainOrderRow.holds Tryz.pinned (OpenSpec.ofChange domainOrderSpec)

/-- ITS FALSE NEIGHBOUR: 'it returns false'. Refute it at one input. -/
def domainOrderWrong : ChangeSpec := { name := "domainOrder", fn := fun _ => fun
  | [d1, d2, d3] => { results := [.lit (.bool false)], args := [d1, d2, d3] }
  | _ => none }
def DomainOrderWrongFalsely : Prop := domainOrderRow.holds Tryz.pinned (OpenSpec.ofChange domainOrderWrong)

/-- 'wageofficelaw19.DomainMonotony': WHATEVER THE INPUT: true; the input reads as it did. -/
def domainMonotonySpec : ChangeSpec := { name := "domainMonotony", fn := fun _ => fun
  | [d1, d2, d3] => { results := [.lit (.bool true)], args := [d1, d2, d3] }
  | _ => none }
def domainMonotonyRow : OpenClaim := { program := "ytjfnkmlnbaianaagreat", sum := "03cc99498b9ddc759b9e1f81a17b798ee4e8b167e72a11a15da86ab6075e03e7", func := "wageoffice/wageofficelaw19.DomainMonotony", spec := "domainMonotony", unfollowed := true, recurses := true, plainKeys := false, apart := false }
def DomainMonotonySaid : Prop := domainMonotonyRow.holds Tryz.pinned (OpenSpec.ofChange domainMonotonySpec)

/-- ITS FALSE NEIGHBOUR: 'it returns false'. Refute it at one input. -/
def domainMonotonyWrong : ChangeSpec := { name := "domainMonotony", fn := fun _ => fun
  | [d1, d2, d3] => { results := [.lit (.bool false)], args := [d1, d2, d3] }
  | _ => none }
def DomainMonotonyWrongFalsely : Prop := domainMonotonyRow.holds Tryz.pinned (OpenSpec.ofChange domainMonotonyWrong)

/-- 'wageofficelaw19.DomainReasons': WHATEVER THE INPUT: true; the input reads as it did. -/
def domainReasonsSpec : ChangeSpec := { name := "domainReasons", fn := fun _ => fun
  | [d] => { results := [.lit (.bool true)], args := [d] }
  | _ => none }
def domainReasonsRow : OpenClaim := { program := "ytjfnkmlnbaianaagreat", sum := "03cc99498b9ddc759b9e1f81a17b798ee4e8b167e72a11a15da86ab6075e03e7", func := "wageoffice/wageofficelaw19.DomainReasons", spec := "domainReasons", unfollowed := true, recurses := true, plainKeys := false, apart := false }
def DomainReasonsSaid : Prop := domainReasonsRow.holds Tryz.pinned (OpenSpec.ofChange domainReasonsSpec)

/-- ITS FALSE NEIGHBOUR: 'it returns false'. Refute it at one input. -/
def domainReasonsWrong : ChangeSpec := { name := "domainReasons", fn := fun _ => fun
  | [d] => { results := [.lit (.bool false)], args := [d] }
  | _ => none }
def DomainReasonsWrongFalsely : Prop := domainReasonsRow.holds Tryz.pinned (OpenSpec.ofChange domainReasonsWrong)

/-- 'wageofficelaw19.DomainRosters': WHATEVER THE INPUT: true; the input reads as it did. -/
def domainRostersSpec : ChangeSpec := { name := "domainRosters", fn := fun _ => fun
  | [d1, d2] => { results := [.lit (.bool true)], args := [d1, d2] }
  | _ => none }
def domainRostersRow : OpenClaim := { program := "ytjfnkmlnbaianaagreat", sum := "03cc99498b9ddc759b9e1f81a17b798ee4e8b167e72a11a15da86ab6075e03e7", func := "wageoffice/wageofficelaw19.DomainRosters", spec := "domainRosters", unfollowed := true, recurses := true, plainKeys := false, apart := false }
def DomainRostersSaid : Prop := domainRostersRow.holds Tryz.pinned (OpenSpec.ofChange domainRostersSpec)

/-- ITS FALSE NEIGHBOUR: 'it returns false'. Refute it at one input. -/
def domainRostersWrong : ChangeSpec := { name := "domainRosters", fn := fun _ => fun
  | [d1, d2] => { results := [.lit (.bool false)], args := [d1, d2] }
  | _ => none }
def DomainRostersWrongFalsely : Prop := domainRostersRow.holds Tryz.pinned (OpenSpec.ofChange domainRostersWrong)

/- THE SECOND FORM. 'bulk': how many values and letters a reading holds, each counted each time it is reached (what is shared counts as often as it is met; a slice's spare places count too). A statement '..UptoSaid' is the law's where the arguments, and the package variables that the reading takes, are together of bulk at most 1048576: NARROWER than '..Said'. Prove '..Said' where nothing that the law and all that it calls make is longer than what came in: it says more and counts as full. Else prove '..UptoSaid'. A law counts once. -/
mutual
def uptoBulk {H : Type} : DataW H → Nat
  | .lit (.string bytes) => bytes.length + 1
  | .lit _ => 1
  | .nil => 1
  | .ptr d => uptoBulk d + 1
  | .slice elems spare => uptoBulkAll elems + uptoBulkAll spare + 1
  | .agg parts => uptoBulkAll parts + 1
  | .iface _ d => uptoBulk d + 1
  | .map entries => uptoBulkEntries entries + 1
  | .held _ => 1
def uptoBulkAll {H : Type} : List (DataW H) → Nat
  | [] => 0
  | d :: r => uptoBulk d + uptoBulkAll r
def uptoBulkEntries {H : Type} : List (Lit × DataW H) → Nat
  | [] => 0
  | x :: r => uptoBulkEntry x + uptoBulkEntries r
def uptoBulkEntry {H : Type} : Lit × DataW H → Nat
  | (.string bytes, d) => bytes.length + uptoBulk d + 1
  | (_, d) => uptoBulk d + 1
 end
def uptoSmall : (H : Type) → List (DataW H) → Bool := fun _ ds => decide (uptoBulkAll ds ≤ 1048576)
def OpenSpec.upto (s : _root_.Go.ChangeSpec) : _root_.Go.OpenSpec := { _root_.Go.OpenSpec.ofChange s with cond := some uptoSmall }

/-- 'wageofficelaw19.DomainMatchesReference', WHERE WHAT IT READS IS OF BULK AT MOST 1048576: true; the input reads as it did. -/
def domainMatchesReferenceUptoRow : OpenClaim := { program := "ytjfnkmlnbaianaagreat", sum := "03cc99498b9ddc759b9e1f81a17b798ee4e8b167e72a11a15da86ab6075e03e7", func := "wageoffice/wageofficelaw19.DomainMatchesReference", spec := "domainMatchesReference", unfollowed := true, recurses := true, plainKeys := false, apart := false, narrowed := true }
def DomainMatchesReferenceUptoSaid : Prop := domainMatchesReferenceUptoRow.holds Tryz.pinned (OpenSpec.upto domainMatchesReferenceSpec)

/-- 'wageofficelaw19.DomainSoundness', WHERE WHAT IT READS IS OF BULK AT MOST 1048576: true; the input reads as it did. -/
def domainSoundnessUptoRow : OpenClaim := { program := "ytjfnkmlnbaianaagreat", sum := "03cc99498b9ddc759b9e1f81a17b798ee4e8b167e72a11a15da86ab6075e03e7", func := "wageoffice/wageofficelaw19.DomainSoundness", spec := "domainSoundness", unfollowed := true, recurses := true, plainKeys := false, apart := false, narrowed := true }
def DomainSoundnessUptoSaid : Prop := domainSoundnessUptoRow.holds Tryz.pinned (OpenSpec.upto domainSoundnessSpec)

/-- 'wageofficelaw19.DomainClosure', WHERE WHAT IT READS IS OF BULK AT MOST 1048576: true; the input reads as it did. -/
def domainClosureUptoRow : OpenClaim := { program := "ytjfnkmlnbaianaagreat", sum := "03cc99498b9ddc759b9e1f81a17b798ee4e8b167e72a11a15da86ab6075e03e7", func := "wageoffice/wageofficelaw19.DomainClosure", spec := "domainClosure", unfollowed := true, recurses := true, plainKeys := false, apart := false, narrowed := true }
def DomainClosureUptoSaid : Prop := domainClosureUptoRow.holds Tryz.pinned (OpenSpec.upto domainClosureSpec)

/-- 'wageofficelaw19.DomainOrder', WHERE WHAT IT READS IS OF BULK AT MOST 1048576: true; the input reads as it did. -/
def domainOrderUptoRow : OpenClaim := { program := "ytjfnkmlnbaianaagreat", sum := "03cc99498b9ddc759b9e1f81a17b798ee4e8b167e72a11a15da86ab6075e03e7", func := "wageoffice/wageofficelaw19.DomainOrder", spec := "domainOrder", unfollowed := true, recurses := true, plainKeys := false, apart := false, narrowed := true }
def DomainOrderUptoSaid : Prop := domainOrderUptoRow.holds Tryz.pinned (OpenSpec.upto domainOrderSpec)

/-- 'wageofficelaw19.DomainMonotony', WHERE WHAT IT READS IS OF BULK AT MOST 1048576: true; the input reads as it did. -/
def domainMonotonyUptoRow : OpenClaim := { program := "ytjfnkmlnbaianaagreat", sum := "03cc99498b9ddc759b9e1f81a17b798ee4e8b167e72a11a15da86ab6075e03e7", func := "wageoffice/wageofficelaw19.DomainMonotony", spec := "domainMonotony", unfollowed := true, recurses := true, plainKeys := false, apart := false, narrowed := true }
def DomainMonotonyUptoSaid : Prop := domainMonotonyUptoRow.holds Tryz.pinned (OpenSpec.upto domainMonotonySpec)

/-- 'wageofficelaw19.DomainReasons', WHERE WHAT IT READS IS OF BULK AT MOST 1048576: true; the input reads as it did. -/
def domainReasonsUptoRow : OpenClaim := { program := "ytjfnkmlnbaianaagreat", sum := "03cc99498b9ddc759b9e1f81a17b798ee4e8b167e72a11a15da86ab6075e03e7", func := "wageoffice/wageofficelaw19.DomainReasons", spec := "domainReasons", unfollowed := true, recurses := true, plainKeys := false, apart := false, narrowed := true }
def DomainReasonsUptoSaid : Prop := domainReasonsUptoRow.holds Tryz.pinned (OpenSpec.upto domainReasonsSpec)

/-- 'wageofficelaw19.DomainRosters', WHERE WHAT IT READS IS OF BULK AT MOST 1048576: true; the input reads as it did. -/
def domainRostersUptoRow : OpenClaim := { program := "ytjfnkmlnbaianaagreat", sum := "03cc99498b9ddc759b9e1f81a17b798ee4e8b167e72a11a15da86ab6075e03e7", func := "wageoffice/wageofficelaw19.DomainRosters", spec := "domainRosters", unfollowed := true, recurses := true, plainKeys := false, apart := false, narrowed := true }
def DomainRostersUptoSaid : Prop := domainRostersUptoRow.holds Tryz.pinned (OpenSpec.upto domainRostersSpec)

end Rows
end Go.Proofs.YtjfnkmlnbaianaaGreat
