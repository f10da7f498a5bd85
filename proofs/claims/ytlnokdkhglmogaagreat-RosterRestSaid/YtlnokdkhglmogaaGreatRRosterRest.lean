/-
  RosterRest: for any plan and roster the law returns true.
  Conditions: none.
-/
import Derived.Test.YtlnokdkhglmogaaGreatRD
import Derived.Test.YtlnokdkhglmogaaGreatLH
namespace Go.Proofs.YtlnokdkhglmogaaGreat
open Go.E2 Go.Wage
theorem xRest_args (avs : List AV) (h : ArgH [planDt, .sl 1 (.int .i64)] avs) : FnA Tryz.prog 9 avs (B true) := by
  match avs, h with
  | [a0, a1], ⟨h0, h1, h2, h3, _⟩ =>
    obtain ⟨p0, rfl, hz0⟩ := arg_plan h0 h1
    obtain ⟨l1, rfl, hl1⟩ := arg_ints h2 h3
    exact xRest_all p0 l1 hz0 hl1
set_option maxRecDepth 100000 in
theorem xRest_lifted (os : Os) (started : os.Started) (H : Type) (enc : TypeId × Value → H) :
    ReturnsInHanded {} Tryz.checked os 9 .any (Rows.rosterRestSpec.pre6 enc Tryz.prog Tryz.f9 Rows.rosterRestRow.domain false) (Rows.rosterRestSpec.post enc Tryz.prog Tryz.f9 false true false false) := by
  refine returnsInHanded_of_change (C := Tryz.checked) own started (by kernel_rfl) Tryz.func9
    (ChangeSpec.witness6 (enc := enc) (C := Tryz.checked) false ⟨#[], #[.agg #[.string ⟨#[]⟩, .int .i64 0, .slice none 0 0, .slice none 0 0, .slice none 0 0, .int .i64 0, .int .i64 0, .int .i64 0, .int .i64 0, .int .i64 0], .slice none 0 0], []⟩ 8 (by kernel_rfl) (by kernel_rfl) (by kernel_rfl) (by kernel_rfl)) ?_
  intro W base args ds gs before hval hW _ _
  exact law_post laid (by rw [Tryz.params9]; exact dlP (dlD .nil)) (by kernel_rfl) Tryz.underlying4 rfl
    (fun l hl => by match l, hl with | [_, _], _ => rfl) xRest_args hval hW
theorem xRest_holds : Rows.RosterRestSaid :=
  OpenClaim.holds_of_wide 9 Tryz.f9 rfl rfl rfl rfl rfl rfl rfl ⟨rfl, rfl, rfl, rfl, rfl⟩ rfl rfl rfl rfl rfl (by kernel_rfl) Tryz.func9 (by kernel_rfl)
    (of_decide_eq_true (by kernel_rfl)) (by unfold Func.isWrapper; first | (rw [if_pos (by decide +kernel)]; kernel_rfl) | (rw [if_neg (by decide +kernel)]; exact ⟨rfl, rfl⟩))
    (fun os started H enc _ => xRest_lifted os started H enc)
#print axioms xRest_holds
end Go.Proofs.YtlnokdkhglmogaaGreat
