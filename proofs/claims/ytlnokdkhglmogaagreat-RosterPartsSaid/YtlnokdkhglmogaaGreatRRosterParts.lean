/-
  RosterParts: for any plan and roster the law returns true.
  Conditions: none.
-/
import Derived.Test.YtlnokdkhglmogaaGreatRD
import Derived.Test.YtlnokdkhglmogaaGreatLB
namespace Go.Proofs.YtlnokdkhglmogaaGreat
open Go.E2 Go.Wage
theorem xParts_args (avs : List AV) (h : ArgH [planDt, .sl 1 (.int .i64), .sl 1 .bool] avs) : FnA Tryz.prog 4 avs (B true) := by
  match avs, h with
  | [a0, a1, a2], ⟨h0, h1, h2, h3, h4, h5, _⟩ =>
    obtain ⟨p0, rfl, hz0⟩ := arg_plan h0 h1
    obtain ⟨l1, rfl, hl1⟩ := arg_ints h2 h3
    obtain ⟨l2, rfl, hl2⟩ := arg_bools h4 h5
    exact xParts_all p0 l1 l2 hz0 hl1 hl2
set_option maxRecDepth 100000 in
theorem xParts_lifted (os : Os) (started : os.Started) (H : Type) (enc : TypeId × Value → H) :
    ReturnsInHanded {} Tryz.checked os 4 .any (Rows.rosterPartsSpec.pre6 enc Tryz.prog Tryz.f4 Rows.rosterPartsRow.domain false) (Rows.rosterPartsSpec.post enc Tryz.prog Tryz.f4 false true false false) := by
  refine returnsInHanded_of_change (C := Tryz.checked) own started (by kernel_rfl) Tryz.func4
    (ChangeSpec.witness6 (enc := enc) (C := Tryz.checked) false ⟨#[], #[.agg #[.string ⟨#[]⟩, .int .i64 0, .slice none 0 0, .slice none 0 0, .slice none 0 0, .int .i64 0, .int .i64 0, .int .i64 0, .int .i64 0, .int .i64 0], .slice none 0 0, .slice none 0 0], []⟩ 8 (by kernel_rfl) (by kernel_rfl) (by kernel_rfl) (by kernel_rfl)) ?_
  intro W base args ds gs before hval hW _ _
  exact law_post laid (by rw [Tryz.params4]; exact dlP (dlD (dlO .nil))) (by kernel_rfl) Tryz.underlying4 rfl
    (fun l hl => by match l, hl with | [_, _, _], _ => rfl) xParts_args hval hW
theorem xParts_holds : Rows.RosterPartsSaid :=
  OpenClaim.holds_of_wide 4 Tryz.f4 rfl rfl rfl rfl rfl rfl rfl ⟨rfl, rfl, rfl, rfl, rfl⟩ rfl rfl rfl rfl rfl (by kernel_rfl) Tryz.func4 (by kernel_rfl)
    (of_decide_eq_true (by kernel_rfl)) (by unfold Func.isWrapper; first | (rw [if_pos (by decide +kernel)]; kernel_rfl) | (rw [if_neg (by decide +kernel)]; exact ⟨rfl, rfl⟩))
    (fun os started H enc _ => xParts_lifted os started H enc)
#print axioms xParts_holds
end Go.Proofs.YtlnokdkhglmogaaGreat
