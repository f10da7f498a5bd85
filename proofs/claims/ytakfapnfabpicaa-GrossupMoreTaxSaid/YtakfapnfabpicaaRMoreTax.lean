/-
  GrossupMoreTax: for every tax, increase, gross and net amount the law returns true.
  Conditions: none.
-/
import Derived.Test.YtakfapnfabpicaaRA
import Derived.Test.YtakfapnfabpicaaVL8
namespace Go.Proofs.Ytakfapnfabpicaa
open Go.E2 Go.Wage
theorem lMoreTax_args (avs : List AV) (h : ArgH [funcDt, .int .i64, .int .i64, .int .i64] avs) : FnA Try.prog 10 avs (B true) := by
  match avs, h with
  | [a0, a1, a2, a3], ⟨h0, h1, h2, h3, h4, h5, h6, h7, _⟩ =>
    obtain ⟨den0, ps0, rfl, hl0⟩ := arg_func h0 h1
    obtain ⟨x1, rfl, _⟩ := arg_int h2 h3
    obtain ⟨x2, rfl, _⟩ := arg_int h4 h5
    obtain ⟨x3, rfl, w3⟩ := arg_int h6 h7
    exact lMoreTax_ok den0 x1 x2 x3 ps0 hl0 w3
set_option maxRecDepth 100000 in
theorem lMoreTax_lifted (os : Os) (started : os.Started) (H : Type) (enc : TypeId × Value → H) :
    ReturnsInHanded {} Try.checked os 10 .any (Rows.grossupMoreTaxSpec.pre6 enc Try.prog Try.f10 Rows.grossupMoreTaxRow.domain false) (Rows.grossupMoreTaxSpec.post enc Try.prog Try.f10 false true false false) := by
  refine returnsInHanded_of_change (C := Try.checked) own started (by kernel_rfl) Try.func10
    (ChangeSpec.witness6 (enc := enc) (C := Try.checked) false ⟨#[], #[.agg #[.int .i64 0, .slice none 0 0], .int .i64 0, .int .i64 0, .int .i64 0], []⟩ 8 (by kernel_rfl) (by kernel_rfl) (by kernel_rfl) (by kernel_rfl)) ?_
  intro W base args ds gs before hval hW _ _
  exact law_post laid (by rw [Try.params10]; exact dlF (dlI (dlI (dlI .nil)))) (by kernel_rfl) Try.underlying4 rfl
    (fun l hl => by match l, hl with | [_, _, _, _], _ => rfl) lMoreTax_args hval hW
theorem lMoreTax_holds : Rows.GrossupMoreTaxSaid :=
  OpenClaim.holds_of_wide 10 Try.f10 rfl rfl rfl rfl rfl rfl rfl ⟨rfl, rfl, rfl, rfl, rfl⟩ rfl rfl rfl rfl rfl (by kernel_rfl) Try.func10 (by kernel_rfl)
    (of_decide_eq_true (by kernel_rfl)) (by unfold Func.isWrapper; first | (rw [if_pos (by decide +kernel)]; kernel_rfl) | (rw [if_neg (by decide +kernel)]; exact ⟨rfl, rfl⟩))
    (fun os started H enc _ => lMoreTax_lifted os started H enc)
#print axioms lMoreTax_holds
end Go.Proofs.Ytakfapnfabpicaa
