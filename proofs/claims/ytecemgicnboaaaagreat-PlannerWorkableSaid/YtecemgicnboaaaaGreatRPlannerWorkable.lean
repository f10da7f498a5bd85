/-
  PlannerWorkable: for any plan the law returns true.
  Conditions: none.
-/
import Derived.Test.YtecemgicnboaaaaGreatNA
import Derived.Test.YtecemgicnboaaaaGreatNL1
namespace Go.Proofs.YtecemgicnboaaaaGreat
open Go.E2 Go.Wage
theorem m0Workable_args (avs : List AV) (h : ArgH [planDt] avs) : FnA Tryz.prog 7 avs (B true) := by
  match avs, h with
  | [a0], ⟨h0, h1, _⟩ =>
    obtain ⟨p0, rfl, hz0⟩ := arg_plan h0 h1
    exact m0Workable_ok p0 hz0
set_option maxRecDepth 100000 in
theorem m0Workable_lifted (os : Os) (started : os.Started) (H : Type) (enc : TypeId × Value → H) :
    ReturnsInHanded {} Tryz.checked os 7 .any (Rows.plannerWorkableSpec.pre6 enc Tryz.prog Tryz.f7 Rows.plannerWorkableRow.domain false) (Rows.plannerWorkableSpec.post enc Tryz.prog Tryz.f7 false true false false) := by
  refine returnsInHanded_of_change (C := Tryz.checked) own started (by kernel_rfl) Tryz.func7
    (ChangeSpec.witness6 (enc := enc) (C := Tryz.checked) false ⟨#[], #[.agg #[.string ⟨#[]⟩, .int .i64 0, .slice none 0 0, .slice none 0 0, .slice none 0 0, .int .i64 0, .int .i64 0, .int .i64 0, .int .i64 0, .int .i64 0]], []⟩ 8 (by kernel_rfl) (by kernel_rfl) (by kernel_rfl) (by kernel_rfl)) ?_
  intro W base args ds gs before hval hW _ _
  exact law_post laid (by rw [Tryz.params7]; exact dlP .nil) (by kernel_rfl) Tryz.underlying4 rfl
    (fun l hl => by match l, hl with | [_], _ => rfl) m0Workable_args hval hW
theorem m0Workable_holds : Rows.PlannerWorkableSaid :=
  OpenClaim.holds_of_wide 7 Tryz.f7 rfl rfl rfl rfl rfl rfl rfl ⟨rfl, rfl, rfl, rfl, rfl⟩ rfl rfl rfl rfl rfl (by kernel_rfl) Tryz.func7 (by kernel_rfl)
    (of_decide_eq_true (by kernel_rfl)) (by unfold Func.isWrapper; first | (rw [if_pos (by decide +kernel)]; kernel_rfl) | (rw [if_neg (by decide +kernel)]; exact ⟨rfl, rfl⟩))
    (fun os started H enc _ => m0Workable_lifted os started H enc)
#print axioms m0Workable_holds
end Go.Proofs.YtecemgicnboaaaaGreat
