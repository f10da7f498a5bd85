/-
  GrossupFixed: for every tax and net amount the law returns true.
  Conditions: none.
-/
import Derived.Test.YtakfapnfabpicaaRA
import Derived.Test.YtakfapnfabpicaaVL6
namespace Go.Proofs.Ytakfapnfabpicaa
open Go.E2 Go.Wage
theorem lFixed_args (avs : List AV) (h : ArgH [.int .i64, .int .i64] avs) : FnA Try.prog 6 avs (B true) := by
  match avs, h with
  | [a0, a1], ⟨h0, h1, h2, h3, _⟩ =>
    obtain ⟨x0, rfl, _⟩ := arg_int h0 h1
    obtain ⟨x1, rfl, _⟩ := arg_int h2 h3
    exact lFixed_ok x0 x1 
set_option maxRecDepth 100000 in
theorem lFixed_lifted (os : Os) (started : os.Started) (H : Type) (enc : TypeId × Value → H) :
    ReturnsInHanded {} Try.checked os 6 .any (Rows.grossupFixedSpec.pre6 enc Try.prog Try.f6 Rows.grossupFixedRow.domain false) (Rows.grossupFixedSpec.post enc Try.prog Try.f6 false true false false) := by
  refine returnsInHanded_of_change (C := Try.checked) own started (by kernel_rfl) Try.func6
    (ChangeSpec.witness6 (enc := enc) (C := Try.checked) false ⟨#[], #[.int .i64 0, .int .i64 0], []⟩ 8 (by kernel_rfl) (by kernel_rfl) (by kernel_rfl) (by kernel_rfl)) ?_
  intro W base args ds gs before hval hW _ _
  exact law_post laid (by rw [Try.params6]; exact dlI (dlI .nil)) (by kernel_rfl) Try.underlying4 rfl
    (fun l hl => by match l, hl with | [_, _], _ => rfl) lFixed_args hval hW
theorem lFixed_holds : Rows.GrossupFixedSaid :=
  OpenClaim.holds_of_wide 6 Try.f6 rfl rfl rfl rfl rfl rfl rfl ⟨rfl, rfl, rfl, rfl, rfl⟩ rfl rfl rfl rfl rfl (by kernel_rfl) Try.func6 (by kernel_rfl)
    (of_decide_eq_true (by kernel_rfl)) (by unfold Func.isWrapper; first | (rw [if_pos (by decide +kernel)]; kernel_rfl) | (rw [if_neg (by decide +kernel)]; exact ⟨rfl, rfl⟩))
    (fun os started H enc _ => lFixed_lifted os started H enc)
#print axioms lFixed_holds
end Go.Proofs.Ytakfapnfabpicaa
