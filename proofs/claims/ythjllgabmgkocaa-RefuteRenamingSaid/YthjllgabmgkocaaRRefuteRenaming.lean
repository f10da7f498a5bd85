/-
  RefuteRenaming: for any plan, bound, log, duties and step the law returns true.
  Conditions: none.
-/
import Derived.Test.YthjllgabmgkocaaRGA
import Derived.Test.YthjllgabmgkocaaRGR
namespace Go.Proofs.Ythjllgabmgkocaa
open Go.E2 Go.Wage
theorem dRenaming_args (avs : List AV) (h : ArgH [planDt, .int .i64, .sl 3 stepDt, .int .u8, .int .u8, .int .i64] avs) : FnA Try.prog 5 avs (B true) := by
  match avs, h with
  | [a0, a1, a2, a3, a4, a5], ⟨h0, h1, h2, h3, h4, h5, h6, h7, h8, h9, h10, h11, _⟩ =>
    obtain ⟨p0, rfl, hz0⟩ := arg_plan h0 h1
    obtain ⟨x1, rfl, _⟩ := arg_int h2 h3
    obtain ⟨g2, rfl, hg2⟩ := arg_log h4 h5
    obtain ⟨x3, rfl, w3⟩ := arg_int h6 h7
    obtain ⟨x4, rfl, w4⟩ := arg_int h8 h9
    obtain ⟨x5, rfl, _⟩ := arg_int h10 h11
    exact dRenaming_all p0 x1 g2 x3 x4 x5 hz0 hg2 (u8_of w3) (u8_of w4)
set_option maxRecDepth 100000 in
theorem dRenaming_lifted (os : Os) (started : os.Started) (H : Type) (enc : TypeId × Value → H) :
    ReturnsInHanded {} Try.checked os 5 .any (Rows.refuteRenamingSpec.pre6 enc Try.prog Try.f5 Rows.refuteRenamingRow.domain false) (Rows.refuteRenamingSpec.post enc Try.prog Try.f5 false true false false) := by
  refine returnsInHanded_of_change (C := Try.checked) own started (by kernel_rfl) Try.func5
    (ChangeSpec.witness6 (enc := enc) (C := Try.checked) false ⟨#[], #[.agg #[.string ⟨#[]⟩, .int .i64 0, .slice none 0 0, .slice none 0 0, .slice none 0 0, .int .i64 0, .int .i64 0, .int .i64 0, .int .i64 0, .int .i64 0], .int .i64 0, .slice none 0 0, .int .u8 0, .int .u8 0, .int .i64 0], []⟩ 8 (by kernel_rfl) (by kernel_rfl) (by kernel_rfl) (by kernel_rfl)) ?_
  intro W base args ds gs before hval hW _ _
  exact law_post laid (by rw [Try.params5]; exact dlP (dlI (dlG (dl8 (dl8 (dlI .nil)))))) (by kernel_rfl) Try.underlying4 rfl
    (fun l hl => by match l, hl with | [_, _, _, _, _, _], _ => rfl) dRenaming_args hval hW
theorem dRenaming_holds : Rows.RefuteRenamingSaid :=
  OpenClaim.holds_of_wide 5 Try.f5 rfl rfl rfl rfl rfl rfl rfl ⟨rfl, rfl, rfl, rfl, rfl⟩ rfl rfl rfl rfl rfl (by kernel_rfl) Try.func5 (by kernel_rfl)
    (of_decide_eq_true (by kernel_rfl)) (by unfold Func.isWrapper; first | (rw [if_pos (by decide +kernel)]; kernel_rfl) | (rw [if_neg (by decide +kernel)]; exact ⟨rfl, rfl⟩))
    (fun os started H enc _ => dRenaming_lifted os started H enc)
#print axioms dRenaming_holds
end Go.Proofs.Ythjllgabmgkocaa
