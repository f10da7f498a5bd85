/-
  PlannerRelaxed: for any plan, numbers and worker the law returns true.
  Conditions: none.
-/
import Derived.Test.YtecemgicnboaaaaGreatNA
import Derived.Test.YtecemgicnboaaaaGreatNL5
namespace Go.Proofs.YtecemgicnboaaaaGreat
open Go.E2 Go.Wage
theorem m0Relaxed_args (avs : List AV) (h : ArgH [planDt, .int .i64, .int .i64, workerDt] avs) : FnA Tryz.prog 5 avs (B true) := by
  match avs, h with
  | [a0, a1, a2, a3], ⟨h0, h1, h2, h3, h4, h5, h6, h7, _⟩ =>
    obtain ⟨p0, rfl, hz0⟩ := arg_plan h0 h1
    obtain ⟨x1, rfl, w1⟩ := arg_int h2 h3
    obtain ⟨x2, rfl, w2⟩ := arg_int h4 h5
    obtain ⟨k3, rfl, hw3⟩ := has_worker h6 h7
    exact m0Relaxed_all p0 x1 x2 k3 hz0 (i64_of w1) (i64_of w2) hw3
set_option maxRecDepth 100000 in
theorem m0Relaxed_lifted (os : Os) (started : os.Started) (H : Type) (enc : TypeId × Value → H) :
    ReturnsInHanded {} Tryz.checked os 5 .any (Rows.plannerRelaxedSpec.pre6 enc Tryz.prog Tryz.f5 Rows.plannerRelaxedRow.domain false) (Rows.plannerRelaxedSpec.post enc Tryz.prog Tryz.f5 false true false false) := by
  refine returnsInHanded_of_change (C := Tryz.checked) own started (by kernel_rfl) Tryz.func5
    (ChangeSpec.witness6 (enc := enc) (C := Tryz.checked) false ⟨#[], #[.agg #[.string ⟨#[]⟩, .int .i64 0, .slice none 0 0, .slice none 0 0, .slice none 0 0, .int .i64 0, .int .i64 0, .int .i64 0, .int .i64 0, .int .i64 0], .int .i64 0, .int .i64 0, .agg #[.string ⟨#[]⟩, .int .i64 0, .bool false, .int .i64 0, .slice none 0 0]], []⟩ 8 (by kernel_rfl) (by kernel_rfl) (by kernel_rfl) (by kernel_rfl)) ?_
  intro W base args ds gs before hval hW _ _
  exact law_post laid (by rw [Tryz.params5]; exact dlP (dlI (dlI (dlW .nil)))) (by kernel_rfl) Tryz.underlying4 rfl
    (fun l hl => by match l, hl with | [_, _, _, _], _ => rfl) m0Relaxed_args hval hW
theorem m0Relaxed_holds : Rows.PlannerRelaxedSaid :=
  OpenClaim.holds_of_wide 5 Tryz.f5 rfl rfl rfl rfl rfl rfl rfl ⟨rfl, rfl, rfl, rfl, rfl⟩ rfl rfl rfl rfl rfl (by kernel_rfl) Tryz.func5 (by kernel_rfl)
    (of_decide_eq_true (by kernel_rfl)) (by unfold Func.isWrapper; first | (rw [if_pos (by decide +kernel)]; kernel_rfl) | (rw [if_neg (by decide +kernel)]; exact ⟨rfl, rfl⟩))
    (fun os started H enc _ => m0Relaxed_lifted os started H enc)
#print axioms m0Relaxed_holds
end Go.Proofs.YtecemgicnboaaaaGreat
