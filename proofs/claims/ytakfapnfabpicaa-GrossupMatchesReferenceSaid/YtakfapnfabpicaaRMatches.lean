/-
  GrossupMatchesReference: for every tax, gross and net amount the law returns true.
  Conditions: none.
-/
import Derived.Test.YtakfapnfabpicaaRA
import Derived.Test.YtakfapnfabpicaaVL7
namespace Go.Proofs.Ytakfapnfabpicaa
open Go.E2 Go.Wage
theorem lMatchesReference_args (avs : List AV) (h : ArgH [funcDt, .int .i64, .int .i64] avs) : FnA Try.prog 3 avs (B true) := by
  match avs, h with
  | [a0, a1, a2], ⟨h0, h1, h2, h3, h4, h5, _⟩ =>
    obtain ⟨den0, ps0, rfl, hl0⟩ := arg_func h0 h1
    obtain ⟨x1, rfl, _⟩ := arg_int h2 h3
    obtain ⟨x2, rfl, _⟩ := arg_int h4 h5
    exact lMatchesReference_ok den0 x1 x2 ps0 hl0
set_option maxRecDepth 100000 in
theorem lMatchesReference_lifted (os : Os) (started : os.Started) (H : Type) (enc : TypeId × Value → H) :
    ReturnsInHanded {} Try.checked os 3 .any (Rows.grossupMatchesReferenceSpec.pre6 enc Try.prog Try.f3 Rows.grossupMatchesReferenceRow.domain false) (Rows.grossupMatchesReferenceSpec.post enc Try.prog Try.f3 false true false false) := by
  refine returnsInHanded_of_change (C := Try.checked) own started (by kernel_rfl) Try.func3
    (ChangeSpec.witness6 (enc := enc) (C := Try.checked) false ⟨#[], #[.agg #[.int .i64 0, .slice none 0 0], .int .i64 0, .int .i64 0], []⟩ 8 (by kernel_rfl) (by kernel_rfl) (by kernel_rfl) (by kernel_rfl)) ?_
  intro W base args ds gs before hval hW _ _
  exact law_post laid (by rw [Try.params3]; exact dlF (dlI (dlI .nil))) (by kernel_rfl) Try.underlying4 rfl
    (fun l hl => by match l, hl with | [_, _, _], _ => rfl) lMatchesReference_args hval hW
theorem lMatchesReference_holds : Rows.GrossupMatchesReferenceSaid :=
  OpenClaim.holds_of_wide 3 Try.f3 rfl rfl rfl rfl rfl rfl rfl ⟨rfl, rfl, rfl, rfl, rfl⟩ rfl rfl rfl rfl rfl (by kernel_rfl) Try.func3 (by kernel_rfl)
    (of_decide_eq_true (by kernel_rfl)) (by unfold Func.isWrapper; first | (rw [if_pos (by decide +kernel)]; kernel_rfl) | (rw [if_neg (by decide +kernel)]; exact ⟨rfl, rfl⟩))
    (fun os started H enc _ => lMatchesReference_lifted os started H enc)
#print axioms lMatchesReference_holds
end Go.Proofs.Ytakfapnfabpicaa
