/-
  RosterLimits: for any plan, roster and relaxation the law returns true.
  Conditions: none.
-/
import Derived.Test.YtlnokdkhglmogaaGreatRD
import Derived.Test.YtlnokdkhglmogaaGreatLA
namespace Go.Proofs.YtlnokdkhglmogaaGreat
open Go.E2 Go.Wage
theorem xLimits_args (avs : List AV) (h : ArgH [planDt, .sl 1 (.int .i64), .int .u16, .int .u16, .int .u16] avs) : FnA Tryz.prog 8 avs (B true) := by
  match avs, h with
  | [a0, a1, a2, a3, a4], ⟨h0, h1, h2, h3, h4, h5, h6, h7, h8, h9, _⟩ =>
    obtain ⟨p0, rfl, hz0⟩ := arg_plan h0 h1
    obtain ⟨l1, rfl, hl1⟩ := arg_ints h2 h3
    obtain ⟨x2, rfl, w2⟩ := arg_int h4 h5
    obtain ⟨x3, rfl, w3⟩ := arg_int h6 h7
    obtain ⟨x4, rfl, w4⟩ := arg_int h8 h9
    exact xLimits_all p0 l1 x2 x3 x4 hz0 hl1 (u16_of w2) (u16_of w3) (u16_of w4)
set_option maxRecDepth 100000 in
theorem xLimits_lifted (os : Os) (started : os.Started) (H : Type) (enc : TypeId × Value → H) :
    ReturnsInHanded {} Tryz.checked os 8 .any (Rows.rosterLimitsSpec.pre6 enc Tryz.prog Tryz.f8 Rows.rosterLimitsRow.domain false) (Rows.rosterLimitsSpec.post enc Tryz.prog Tryz.f8 false true false false) := by
  refine returnsInHanded_of_change (C := Tryz.checked) own started (by kernel_rfl) Tryz.func8
    (ChangeSpec.witness6 (enc := enc) (C := Tryz.checked) false ⟨#[], #[.agg #[.string ⟨#[]⟩, .int .i64 0, .slice none 0 0, .slice none 0 0, .slice none 0 0, .int .i64 0, .int .i64 0, .int .i64 0, .int .i64 0, .int .i64 0], .slice none 0 0, .int .u16 0, .int .u16 0, .int .u16 0], []⟩ 8 (by kernel_rfl) (by kernel_rfl) (by kernel_rfl) (by kernel_rfl)) ?_
  intro W base args ds gs before hval hW _ _
  exact law_post laid (by rw [Tryz.params8]; exact dlP (dlD (dlU (dlU (dlU .nil))))) (by kernel_rfl) Tryz.underlying4 rfl
    (fun l hl => by match l, hl with | [_, _, _, _, _], _ => rfl) xLimits_args hval hW
theorem xLimits_holds : Rows.RosterLimitsSaid :=
  OpenClaim.holds_of_wide 8 Tryz.f8 rfl rfl rfl rfl rfl rfl rfl ⟨rfl, rfl, rfl, rfl, rfl⟩ rfl rfl rfl rfl rfl (by kernel_rfl) Tryz.func8 (by kernel_rfl)
    (of_decide_eq_true (by kernel_rfl)) (by unfold Func.isWrapper; first | (rw [if_pos (by decide +kernel)]; kernel_rfl) | (rw [if_neg (by decide +kernel)]; exact ⟨rfl, rfl⟩))
    (fun os started H enc _ => xLimits_lifted os started H enc)
#print axioms xLimits_holds
end Go.Proofs.YtlnokdkhglmogaaGreat
