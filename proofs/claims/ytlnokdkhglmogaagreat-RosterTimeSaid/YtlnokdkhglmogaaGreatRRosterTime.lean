/-
  RosterTime: for any plan and roster and number of days the law returns true.
  Conditions: none.
-/
import Derived.Test.YtlnokdkhglmogaaGreatRD
import Derived.Test.YtlnokdkhglmogaaGreatLI
namespace Go.Proofs.YtlnokdkhglmogaaGreat
open Go.E2 Go.Wage
theorem xTime_args (avs : List AV) (h : ArgH [planDt, .sl 1 (.int .i64), .int .u8] avs) : FnA Tryz.prog 10 avs (B true) := by
  match avs, h with
  | [a0, a1, a2], ⟨h0, h1, h2, h3, h4, h5, _⟩ =>
    obtain ⟨p0, rfl, hz0⟩ := arg_plan h0 h1
    obtain ⟨l1, rfl, hl1⟩ := arg_ints h2 h3
    obtain ⟨x2, rfl, w2⟩ := arg_int h4 h5
    exact xTime_all p0 l1 x2 hz0 hl1 (u8_of w2)
set_option maxRecDepth 100000 in
theorem xTime_lifted (os : Os) (started : os.Started) (H : Type) (enc : TypeId × Value → H) :
    ReturnsInHanded {} Tryz.checked os 10 .any (Rows.rosterTimeSpec.pre6 enc Tryz.prog Tryz.f10 Rows.rosterTimeRow.domain false) (Rows.rosterTimeSpec.post enc Tryz.prog Tryz.f10 false true false false) := by
  refine returnsInHanded_of_change (C := Tryz.checked) own started (by kernel_rfl) Tryz.func10
    (ChangeSpec.witness6 (enc := enc) (C := Tryz.checked) false ⟨#[], #[.agg #[.string ⟨#[]⟩, .int .i64 0, .slice none 0 0, .slice none 0 0, .slice none 0 0, .int .i64 0, .int .i64 0, .int .i64 0, .int .i64 0, .int .i64 0], .slice none 0 0, .int .u8 0], []⟩ 8 (by kernel_rfl) (by kernel_rfl) (by kernel_rfl) (by kernel_rfl)) ?_
  intro W base args ds gs before hval hW _ _
  exact law_post laid (by rw [Tryz.params10]; exact dlP (dlD (dl8 .nil))) (by kernel_rfl) Tryz.underlying4 rfl
    (fun l hl => by match l, hl with | [_, _, _], _ => rfl) xTime_args hval hW
theorem xTime_holds : Rows.RosterTimeSaid :=
  OpenClaim.holds_of_wide 10 Tryz.f10 rfl rfl rfl rfl rfl rfl rfl ⟨rfl, rfl, rfl, rfl, rfl⟩ rfl rfl rfl rfl rfl (by kernel_rfl) Tryz.func10 (by kernel_rfl)
    (of_decide_eq_true (by kernel_rfl)) (by unfold Func.isWrapper; first | (rw [if_pos (by decide +kernel)]; kernel_rfl) | (rw [if_neg (by decide +kernel)]; exact ⟨rfl, rfl⟩))
    (fun os started H enc _ => xTime_lifted os started H enc)
#print axioms xTime_holds
end Go.Proofs.YtlnokdkhglmogaaGreat
