/-
  PlannerMatchesReference: for any plan and fuel the law returns true.
  Conditions: none.
-/
import Derived.Test.YtecemgicnboaaaaGreatNA
import Derived.Test.YtecemgicnboaaaaGreatNQ3
namespace Go.Proofs.YtecemgicnboaaaaGreat
open Go.E2 Go.Wage
theorem m0Matches_args (avs : List AV) (h : ArgH [planDt, .int .i64] avs) : FnA Tryz.prog 3 avs (B true) := by
  match avs, h with
  | [a0, a1], ⟨h0, h1, h2, h3, _⟩ =>
    obtain ⟨p0, rfl, hz0⟩ := arg_plan h0 h1
    obtain ⟨x1, rfl, w1⟩ := arg_int h2 h3
    exact m0Matches_all p0 x1 hz0 (i64_of w1)
set_option maxRecDepth 100000 in
theorem m0Matches_lifted (os : Os) (started : os.Started) (H : Type) (enc : TypeId × Value → H) :
    ReturnsInHanded {} Tryz.checked os 3 .any (Rows.plannerMatchesReferenceSpec.pre6 enc Tryz.prog Tryz.f3 Rows.plannerMatchesReferenceRow.domain false) (Rows.plannerMatchesReferenceSpec.post enc Tryz.prog Tryz.f3 false true false false) := by
  refine returnsInHanded_of_change (C := Tryz.checked) own started (by kernel_rfl) Tryz.func3
    (ChangeSpec.witness6 (enc := enc) (C := Tryz.checked) false ⟨#[], #[.agg #[.string ⟨#[]⟩, .int .i64 0, .slice none 0 0, .slice none 0 0, .slice none 0 0, .int .i64 0, .int .i64 0, .int .i64 0, .int .i64 0, .int .i64 0], .int .i64 0], []⟩ 8 (by kernel_rfl) (by kernel_rfl) (by kernel_rfl) (by kernel_rfl)) ?_
  intro W base args ds gs before hval hW _ _
  exact law_post laid (by rw [Tryz.params3]; exact dlP (dlI .nil)) (by kernel_rfl) Tryz.underlying4 rfl
    (fun l hl => by match l, hl with | [_, _], _ => rfl) m0Matches_args hval hW
theorem m0Matches_holds : Rows.PlannerMatchesReferenceSaid :=
  OpenClaim.holds_of_wide 3 Tryz.f3 rfl rfl rfl rfl rfl rfl rfl ⟨rfl, rfl, rfl, rfl, rfl⟩ rfl rfl rfl rfl rfl (by kernel_rfl) Tryz.func3 (by kernel_rfl)
    (of_decide_eq_true (by kernel_rfl)) (by unfold Func.isWrapper; first | (rw [if_pos (by decide +kernel)]; kernel_rfl) | (rw [if_neg (by decide +kernel)]; exact ⟨rfl, rfl⟩))
    (fun os started H enc _ => m0Matches_lifted os started H enc)
#print axioms m0Matches_holds
end Go.Proofs.YtecemgicnboaaaaGreat
