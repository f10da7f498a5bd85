/-
  RefuteSound: for any plan, bound, log and list the law returns true.
  Conditions: none.
-/
import Derived.Test.YthjllgabmgkocaaGreatRGA
import Derived.Test.YthjllgabmgkocaaGreatRL
namespace Go.Proofs.YthjllgabmgkocaaGreat
open Go.E2 Go.Wage
theorem dSound_args (avs : List AV) (h : ArgH [planDt, .int .i64, .sl 3 stepDt, .sl 1 (.int .i64)] avs) : FnA Tryz.prog 4 avs (B true) := by
  match avs, h with
  | [a0, a1, a2, a3], ⟨h0, h1, h2, h3, h4, h5, h6, h7, _⟩ =>
    obtain ⟨p0, rfl, hz0⟩ := arg_plan h0 h1
    obtain ⟨x1, rfl, _⟩ := arg_int h2 h3
    obtain ⟨g2, rfl, hg2⟩ := arg_log h4 h5
    obtain ⟨l3, rfl, hl3⟩ := arg_ints h6 h7
    exact dSound_all p0 x1 g2 l3 hz0 hg2 hl3
set_option maxRecDepth 100000 in
theorem dSound_lifted (os : Os) (started : os.Started) (H : Type) (enc : TypeId × Value → H) :
    ReturnsInHanded {} Tryz.checked os 4 .any (Rows.refuteSoundSpec.pre6 enc Tryz.prog Tryz.f4 Rows.refuteSoundRow.domain false) (Rows.refuteSoundSpec.post enc Tryz.prog Tryz.f4 false true false false) := by
  refine returnsInHanded_of_change (C := Tryz.checked) own started (by kernel_rfl) Tryz.func4
    (ChangeSpec.witness6 (enc := enc) (C := Tryz.checked) false ⟨#[], #[.agg #[.string ⟨#[]⟩, .int .i64 0, .slice none 0 0, .slice none 0 0, .slice none 0 0, .int .i64 0, .int .i64 0, .int .i64 0, .int .i64 0, .int .i64 0], .int .i64 0, .slice none 0 0, .slice none 0 0], []⟩ 8 (by kernel_rfl) (by kernel_rfl) (by kernel_rfl) (by kernel_rfl)) ?_
  intro W base args ds gs before hval hW _ _
  exact law_post laid (by rw [Tryz.params4]; exact dlP (dlI (dlG (dlD .nil)))) (by kernel_rfl) Tryz.underlying4 rfl
    (fun l hl => by match l, hl with | [_, _, _, _], _ => rfl) dSound_args hval hW
theorem dSound_holds : Rows.RefuteSoundSaid :=
  OpenClaim.holds_of_wide 4 Tryz.f4 rfl rfl rfl rfl rfl rfl rfl ⟨rfl, rfl, rfl, rfl, rfl⟩ rfl rfl rfl rfl rfl (by kernel_rfl) Tryz.func4 (by kernel_rfl)
    (of_decide_eq_true (by kernel_rfl)) (by unfold Func.isWrapper; first | (rw [if_pos (by decide +kernel)]; kernel_rfl) | (rw [if_neg (by decide +kernel)]; exact ⟨rfl, rfl⟩))
    (fun os started H enc _ => dSound_lifted os started H enc)
#print axioms dSound_holds
end Go.Proofs.YthjllgabmgkocaaGreat
