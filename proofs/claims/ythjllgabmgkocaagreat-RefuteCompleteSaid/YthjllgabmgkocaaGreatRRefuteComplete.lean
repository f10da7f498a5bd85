/-
  RefuteComplete: for any plan and bound the law returns true.
  Conditions: none.
-/
import Derived.Test.YthjllgabmgkocaaGreatRGA
import Derived.Test.YthjllgabmgkocaaGreatRN
namespace Go.Proofs.YthjllgabmgkocaaGreat
open Go.E2 Go.Wage
theorem dCompl_args (avs : List AV) (h : ArgH [planDt, .int .i64] avs) : FnA Tryz.prog 6 avs (B true) := by
  match avs, h with
  | [a0, a1], ⟨h0, h1, h2, h3, _⟩ =>
    obtain ⟨p0, rfl, hz0⟩ := arg_plan h0 h1
    obtain ⟨x1, rfl, _⟩ := arg_int h2 h3
    exact dCompl_all p0 x1 hz0
set_option maxRecDepth 100000 in
theorem dCompl_lifted (os : Os) (started : os.Started) (H : Type) (enc : TypeId × Value → H) :
    ReturnsInHanded {} Tryz.checked os 6 .any (Rows.refuteCompleteSpec.pre6 enc Tryz.prog Tryz.f6 Rows.refuteCompleteRow.domain false) (Rows.refuteCompleteSpec.post enc Tryz.prog Tryz.f6 false true false false) := by
  refine returnsInHanded_of_change (C := Tryz.checked) own started (by kernel_rfl) Tryz.func6
    (ChangeSpec.witness6 (enc := enc) (C := Tryz.checked) false ⟨#[], #[.agg #[.string ⟨#[]⟩, .int .i64 0, .slice none 0 0, .slice none 0 0, .slice none 0 0, .int .i64 0, .int .i64 0, .int .i64 0, .int .i64 0, .int .i64 0], .int .i64 0], []⟩ 8 (by kernel_rfl) (by kernel_rfl) (by kernel_rfl) (by kernel_rfl)) ?_
  intro W base args ds gs before hval hW _ _
  exact law_post laid (by rw [Tryz.params6]; exact dlP (dlI .nil)) (by kernel_rfl) Tryz.underlying4 rfl
    (fun l hl => by match l, hl with | [_, _], _ => rfl) dCompl_args hval hW
theorem dCompl_holds : Rows.RefuteCompleteSaid :=
  OpenClaim.holds_of_wide 6 Tryz.f6 rfl rfl rfl rfl rfl rfl rfl ⟨rfl, rfl, rfl, rfl, rfl⟩ rfl rfl rfl rfl rfl (by kernel_rfl) Tryz.func6 (by kernel_rfl)
    (of_decide_eq_true (by kernel_rfl)) (by unfold Func.isWrapper; first | (rw [if_pos (by decide +kernel)]; kernel_rfl) | (rw [if_neg (by decide +kernel)]; exact ⟨rfl, rfl⟩))
    (fun os started H enc _ => dCompl_lifted os started H enc)
#print axioms dCompl_holds
end Go.Proofs.YthjllgabmgkocaaGreat
