/-
  RefuteBounds: for any plan, bounds, log and step the law returns true.
  Conditions: none.
-/
import Derived.Test.YthjllgabmgkocaaRGA
import Derived.Test.YthjllgabmgkocaaRGB
namespace Go.Proofs.Ythjllgabmgkocaa
open Go.E2 Go.Wage
theorem dBounds_args (avs : List AV) (h : ArgH [planDt, .int .i64, .int .i64, .sl 3 stepDt, .int .i64] avs) : FnA Try.prog 3 avs (B true) := by
  match avs, h with
  | [a0, a1, a2, a3, a4], ⟨h0, h1, h2, h3, h4, h5, h6, h7, h8, h9, _⟩ =>
    obtain ⟨p0, rfl, hz0⟩ := arg_plan h0 h1
    obtain ⟨x1, rfl, _⟩ := arg_int h2 h3
    obtain ⟨x2, rfl, _⟩ := arg_int h4 h5
    obtain ⟨g3, rfl, hg3⟩ := arg_log h6 h7
    obtain ⟨x4, rfl, _⟩ := arg_int h8 h9
    exact dBounds_all p0 x1 x2 g3 x4 hz0 hg3
set_option maxRecDepth 100000 in
theorem dBounds_lifted (os : Os) (started : os.Started) (H : Type) (enc : TypeId × Value → H) :
    ReturnsInHanded {} Try.checked os 3 .any (Rows.refuteBoundsSpec.pre6 enc Try.prog Try.f3 Rows.refuteBoundsRow.domain false) (Rows.refuteBoundsSpec.post enc Try.prog Try.f3 false true false false) := by
  refine returnsInHanded_of_change (C := Try.checked) own started (by kernel_rfl) Try.func3
    (ChangeSpec.witness6 (enc := enc) (C := Try.checked) false ⟨#[], #[.agg #[.string ⟨#[]⟩, .int .i64 0, .slice none 0 0, .slice none 0 0, .slice none 0 0, .int .i64 0, .int .i64 0, .int .i64 0, .int .i64 0, .int .i64 0], .int .i64 0, .int .i64 0, .slice none 0 0, .int .i64 0], []⟩ 8 (by kernel_rfl) (by kernel_rfl) (by kernel_rfl) (by kernel_rfl)) ?_
  intro W base args ds gs before hval hW _ _
  exact law_post laid (by rw [Try.params3]; exact dlP (dlI (dlI (dlG (dlI .nil))))) (by kernel_rfl) Try.underlying4 rfl
    (fun l hl => by match l, hl with | [_, _, _, _, _], _ => rfl) dBounds_args hval hW
theorem dBounds_holds : Rows.RefuteBoundsSaid :=
  OpenClaim.holds_of_wide 3 Try.f3 rfl rfl rfl rfl rfl rfl rfl ⟨rfl, rfl, rfl, rfl, rfl⟩ rfl rfl rfl rfl rfl (by kernel_rfl) Try.func3 (by kernel_rfl)
    (of_decide_eq_true (by kernel_rfl)) (by unfold Func.isWrapper; first | (rw [if_pos (by decide +kernel)]; kernel_rfl) | (rw [if_neg (by decide +kernel)]; exact ⟨rfl, rfl⟩))
    (fun os started H enc _ => dBounds_lifted os started H enc)
#print axioms dBounds_holds
end Go.Proofs.Ythjllgabmgkocaa
