/-
  PiecewiseWhere: for every list, denominator, limits and argument the law returns true.
  Conditions: none.
-/
import Derived.Test.YtnekeokgognegaaUR
import Derived.Test.YtnekeokgognegaaU11
namespace Go.Proofs.Ytnekeokgognegaa
open Go.E2 Go.Wage
theorem qWhere_args (avs : List AV) (h : ArgH [.sl 3 (.arr 3 (.int .i64)), .int .i64, .int .i64, .int .i64, .int .i64] avs) : FnA Try.prog 6 avs (B true) := by
  match avs, h with
  | [a0, a1, a2, a3, a4], ⟨h0, h1, h2, h3, h4, h5, h6, h7, h8, h9, _⟩ =>
    obtain ⟨l0, rfl, ht0, hl0⟩ := arg_t3s h0 h1
    obtain ⟨x1, rfl, w1⟩ := arg_int h2 h3
    obtain ⟨x2, rfl, w2⟩ := arg_int h4 h5
    obtain ⟨x3, rfl, w3⟩ := arg_int h6 h7
    obtain ⟨x4, rfl, w4⟩ := arg_int h8 h9
    exact qWhere_ok l0 x1 x2 x3 x4 ht0 hl0 (inI_of w1) (inI_of w2) (inI_of w3) (inI_of w4)
set_option maxRecDepth 100000 in
theorem qWhere_lifted (os : Os) (started : os.Started) (H : Type) (enc : TypeId × Value → H) :
    ReturnsInHanded {} Try.checked os 6 .any (Rows.piecewiseWhereSpec.pre6 enc Try.prog Try.f6 Rows.piecewiseWhereRow.domain false) (Rows.piecewiseWhereSpec.post enc Try.prog Try.f6 false true false false) := by
  refine returnsInHanded_of_change (C := Try.checked) own started (by kernel_rfl) Try.func6
    (ChangeSpec.witness6 (enc := enc) (C := Try.checked) false ⟨#[], #[.slice none 0 0, .int .i64 0, .int .i64 0, .int .i64 0, .int .i64 0], []⟩ 8 (by kernel_rfl) (by kernel_rfl) (by kernel_rfl) (by kernel_rfl)) ?_
  intro W base args ds gs before hval hW _ _
  exact law_post laid (by rw [Try.params6]; exact dlT (dlI (dlI (dlI (dlI .nil))))) (by kernel_rfl) Try.underlying4 rfl
    (fun l hl => by match l, hl with | [_, _, _, _, _], _ => rfl) qWhere_args hval hW
theorem qWhere_holds : Rows.PiecewiseWhereSaid :=
  OpenClaim.holds_of_wide 6 Try.f6 rfl rfl rfl rfl rfl rfl rfl ⟨rfl, rfl, rfl, rfl, rfl⟩ rfl rfl rfl rfl rfl (by kernel_rfl) Try.func6 (by kernel_rfl)
    (of_decide_eq_true (by kernel_rfl)) (by unfold Func.isWrapper; first | (rw [if_pos (by decide +kernel)]; kernel_rfl) | (rw [if_neg (by decide +kernel)]; exact ⟨rfl, rfl⟩))
    (fun os started H enc _ => qWhere_lifted os started H enc)
#print axioms qWhere_holds
end Go.Proofs.Ytnekeokgognegaa
