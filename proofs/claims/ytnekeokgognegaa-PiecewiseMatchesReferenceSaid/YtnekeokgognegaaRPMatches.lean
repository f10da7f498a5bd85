/-
  PiecewiseMatchesReference: for every two functions, lists and numbers the law returns true.
  Conditions: none.
-/
import Derived.Test.YtnekeokgognegaaUQ
import Derived.Test.YtnekeokgognegaaU20
namespace Go.Proofs.Ytnekeokgognegaa
open Go.E2 Go.Wage
theorem qMatches_args (avs : List AV) (h : ArgH [fnDt, fnDt, .sl 3 (.arr 3 (.int .i64)), .sl 3 (.arr 3 (.int .i64)), .arr 4 (.int .i64)] avs) : FnA Try.prog 3 avs (B true) := by
  match avs, h with
  | [a0, a1, a2, a3, a4], ⟨h0, h1, h2, h3, h4, h5, h6, h7, h8, h9, _⟩ =>
    obtain ⟨d0, l0, rfl, w0⟩ := arg_fn h0 h1
    obtain ⟨d1, l1, rfl, w1⟩ := arg_fn h2 h3
    obtain ⟨l2, rfl, ht2, hl2⟩ := arg_t3s h4 h5
    obtain ⟨l3, rfl, ht3, hl3⟩ := arg_t3s h6 h7
    obtain ⟨x0, x1, x2, x3, rfl, i0, i1, i2, i3⟩ := arg_four h8 h9
    exact qMatches_ok d0 d1 l0 l1 l2 l3 x0 x1 x2 x3 w0 w1 ht2 hl2 ht3 hl3 i0 i1 i2 i3
set_option maxRecDepth 100000 in
theorem qMatches_lifted (os : Os) (started : os.Started) (H : Type) (enc : TypeId × Value → H) :
    ReturnsInHanded {} Try.checked os 3 .any (Rows.piecewiseMatchesReferenceSpec.pre6 enc Try.prog Try.f3 Rows.piecewiseMatchesReferenceRow.domain false) (Rows.piecewiseMatchesReferenceSpec.post enc Try.prog Try.f3 false true false false) := by
  refine returnsInHanded_of_change (C := Try.checked) own started (by kernel_rfl) Try.func3
    (ChangeSpec.witness6 (enc := enc) (C := Try.checked) false ⟨#[], #[.agg #[.int .i64 0, .slice none 0 0], .agg #[.int .i64 0, .slice none 0 0], .slice none 0 0, .slice none 0 0, .agg #[.int .i64 0, .int .i64 0, .int .i64 0, .int .i64 0]], []⟩ 8 (by kernel_rfl) (by kernel_rfl) (by kernel_rfl) (by kernel_rfl)) ?_
  intro W base args ds gs before hval hW _ _
  exact law_post laid (by rw [Try.params3]; exact dlFn (dlFn (dlT (dlT (dl4 .nil))))) (by kernel_rfl) Try.underlying4 rfl
    (fun l hl => by match l, hl with | [_, _, _, _, _], _ => rfl) qMatches_args hval hW
theorem qMatches_holds : Rows.PiecewiseMatchesReferenceSaid :=
  OpenClaim.holds_of_wide 3 Try.f3 rfl rfl rfl rfl rfl rfl rfl ⟨rfl, rfl, rfl, rfl, rfl⟩ rfl rfl rfl rfl rfl (by kernel_rfl) Try.func3 (by kernel_rfl)
    (of_decide_eq_true (by kernel_rfl)) (by unfold Func.isWrapper; first | (rw [if_pos (by decide +kernel)]; kernel_rfl) | (rw [if_neg (by decide +kernel)]; exact ⟨rfl, rfl⟩))
    (fun os started H enc _ => qMatches_lifted os started H enc)
#print axioms qMatches_holds
end Go.Proofs.Ytnekeokgognegaa
