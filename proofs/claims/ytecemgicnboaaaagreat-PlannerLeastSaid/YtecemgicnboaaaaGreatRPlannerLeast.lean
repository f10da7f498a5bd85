/-
  PlannerLeast: for any plan and numbers the law returns true.
  Conditions: none.
-/
import Derived.Test.YtecemgicnboaaaaGreatNA
import Derived.Test.YtecemgicnboaaaaGreatNL3
namespace Go.Proofs.YtecemgicnboaaaaGreat
open Go.E2 Go.Wage
theorem m0Least_args (avs : List AV) (h : ArgH [planDt, .sl 1 (.int .i64)] avs) : FnA Tryz.prog 8 avs (B true) := by
  match avs, h with
  | [a0, a1], ⟨h0, h1, h2, h3, _⟩ =>
    obtain ⟨p0, rfl, hz0⟩ := arg_plan h0 h1
    obtain ⟨l1, rfl, hl1⟩ := arg_ints h2 h3
    exact m0Least_ok p0 l1 hz0 hl1
set_option maxRecDepth 100000 in
theorem m0Least_lifted (os : Os) (started : os.Started) (H : Type) (enc : TypeId × Value → H) :
    ReturnsInHanded {} Tryz.checked os 8 .any (Rows.plannerLeastSpec.pre6 enc Tryz.prog Tryz.f8 Rows.plannerLeastRow.domain false) (Rows.plannerLeastSpec.post enc Tryz.prog Tryz.f8 false true false false) := by
  refine returnsInHanded_of_change (C := Tryz.checked) own started (by kernel_rfl) Tryz.func8
    (ChangeSpec.witness6 (enc := enc) (C := Tryz.checked) false ⟨#[], #[.agg #[.string ⟨#[]⟩, .int .i64 0, .slice none 0 0, .slice none 0 0, .slice none 0 0, .int .i64 0, .int .i64 0, .int .i64 0, .int .i64 0, .int .i64 0], .slice none 0 0], []⟩ 8 (by kernel_rfl) (by kernel_rfl) (by kernel_rfl) (by kernel_rfl)) ?_
  intro W base args ds gs before hval hW _ _
  exact law_post laid (by rw [Tryz.params8]; exact dlP (dlD .nil)) (by kernel_rfl) Tryz.underlying4 rfl
    (fun l hl => by match l, hl with | [_, _], _ => rfl) m0Least_args hval hW
theorem m0Least_holds : Rows.PlannerLeastSaid :=
  OpenClaim.holds_of_wide 8 Tryz.f8 rfl rfl rfl rfl rfl rfl rfl ⟨rfl, rfl, rfl, rfl, rfl⟩ rfl rfl rfl rfl rfl (by kernel_rfl) Tryz.func8 (by kernel_rfl)
    (of_decide_eq_true (by kernel_rfl)) (by unfold Func.isWrapper; first | (rw [if_pos (by decide +kernel)]; kernel_rfl) | (rw [if_neg (by decide +kernel)]; exact ⟨rfl, rfl⟩))
    (fun os started H enc _ => m0Least_lifted os started H enc)
#print axioms m0Least_holds
end Go.Proofs.YtecemgicnboaaaaGreat
