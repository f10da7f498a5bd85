/-
  PiecewiseSums: for every two lists, denominator and argument the law returns true.
  Conditions: none.
-/
import Derived.Test.YtnekeokgognegaaUR
import Derived.Test.YtnekeokgognegaaU13
namespace Go.Proofs.Ytnekeokgognegaa
open Go.E2 Go.Wage
theorem qSums_args (avs : List AV) (h : ArgH [.sl 3 (.arr 3 (.int .i64)), .sl 3 (.arr 3 (.int .i64)), .int .i64, .int .i64] avs) : FnA Try.prog 4 avs (B true) := by
  match avs, h with
  | [a0, a1, a2, a3], ⟨h0, h1, h2, h3, h4, h5, h6, h7, _⟩ =>
    obtain ⟨l0, rfl, ht0, hl0⟩ := arg_t3s h0 h1
    obtain ⟨l1, rfl, ht1, hl1⟩ := arg_t3s h2 h3
    obtain ⟨x2, rfl, w2⟩ := arg_int h4 h5
    obtain ⟨x3, rfl, w3⟩ := arg_int h6 h7
    exact qSums_ok l0 l1 x2 x3 ht0 hl0 ht1 hl1 (inI_of w2) (inI_of w3)
set_option maxRecDepth 100000 in
theorem qSums_lifted (os : Os) (started : os.Started) (H : Type) (enc : TypeId × Value → H) :
    ReturnsInHanded {} Try.checked os 4 .any (Rows.piecewiseSumsSpec.pre6 enc Try.prog Try.f4 Rows.piecewiseSumsRow.domain false) (Rows.piecewiseSumsSpec.post enc Try.prog Try.f4 false true false false) := by
  refine returnsInHanded_of_change (C := Try.checked) own started (by kernel_rfl) Try.func4
    (ChangeSpec.witness6 (enc := enc) (C := Try.checked) false ⟨#[], #[.slice none 0 0, .slice none 0 0, .int .i64 0, .int .i64 0], []⟩ 8 (by kernel_rfl) (by kernel_rfl) (by kernel_rfl) (by kernel_rfl)) ?_
  intro W base args ds gs before hval hW _ _
  exact law_post laid (by rw [Try.params4]; exact dlT (dlT (dlI (dlI .nil)))) (by kernel_rfl) Try.underlying4 rfl
    (fun l hl => by match l, hl with | [_, _, _, _], _ => rfl) qSums_args hval hW
theorem qSums_holds : Rows.PiecewiseSumsSaid :=
  OpenClaim.holds_of_wide 4 Try.f4 rfl rfl rfl rfl rfl rfl rfl ⟨rfl, rfl, rfl, rfl, rfl⟩ rfl rfl rfl rfl rfl (by kernel_rfl) Try.func4 (by kernel_rfl)
    (of_decide_eq_true (by kernel_rfl)) (by unfold Func.isWrapper; first | (rw [if_pos (by decide +kernel)]; kernel_rfl) | (rw [if_neg (by decide +kernel)]; exact ⟨rfl, rfl⟩))
    (fun os started H enc _ => qSums_lifted os started H enc)
#print axioms qSums_holds
end Go.Proofs.Ytnekeokgognegaa
