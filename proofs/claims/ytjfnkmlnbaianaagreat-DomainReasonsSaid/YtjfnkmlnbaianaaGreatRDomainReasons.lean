/-
  DomainReasons: for any plan the law returns true.
  Conditions: none.
-/
import Derived.Test.YtjfnkmlnbaianaaGreatDZ
import Derived.Test.YtjfnkmlnbaianaaGreatDS
namespace Go.Proofs.YtjfnkmlnbaianaaGreat
open Go.E2 Go.Wage
theorem nReasons_args (avs : List AV) (h : ArgH [planDt] avs) : FnA Tryz.prog 8 avs (B true) := by
  match avs, h with
  | [a0], ⟨h0, h1, _⟩ =>
    obtain ⟨p0, rfl, hz0⟩ := arg_plan h0 h1
    exact nReasons_all p0 hz0
set_option maxRecDepth 100000 in
theorem nReasons_lifted (os : Os) (started : os.Started) (H : Type) (enc : TypeId × Value → H) :
    ReturnsInHanded {} Tryz.checked os 8 .any (Rows.domainReasonsSpec.pre6 enc Tryz.prog Tryz.f8 Rows.domainReasonsRow.domain false) (Rows.domainReasonsSpec.post enc Tryz.prog Tryz.f8 false true false false) := by
  refine returnsInHanded_of_change (C := Tryz.checked) own started (by kernel_rfl) Tryz.func8
    (ChangeSpec.witness6 (enc := enc) (C := Tryz.checked) false ⟨#[], #[.agg #[.string ⟨#[]⟩, .int .i64 0, .slice none 0 0, .slice none 0 0, .slice none 0 0, .int .i64 0, .int .i64 0, .int .i64 0, .int .i64 0, .int .i64 0]], []⟩ 8 (by kernel_rfl) (by kernel_rfl) (by kernel_rfl) (by kernel_rfl)) ?_
  intro W base args ds gs before hval hW _ _
  exact law_post laid (by rw [Tryz.params8]; exact dlP .nil) (by kernel_rfl) Tryz.underlying4 rfl
    (fun l hl => by match l, hl with | [_], _ => rfl) nReasons_args hval hW
theorem nReasons_holds : Rows.DomainReasonsSaid :=
  OpenClaim.holds_of_wide 8 Tryz.f8 rfl rfl rfl rfl rfl rfl rfl ⟨rfl, rfl, rfl, rfl, rfl⟩ rfl rfl rfl rfl rfl (by kernel_rfl) Tryz.func8 (by kernel_rfl)
    (of_decide_eq_true (by kernel_rfl)) (by unfold Func.isWrapper; first | (rw [if_pos (by decide +kernel)]; kernel_rfl) | (rw [if_neg (by decide +kernel)]; exact ⟨rfl, rfl⟩))
    (fun os started H enc _ => nReasons_lifted os started H enc)
#print axioms nReasons_holds
end Go.Proofs.YtjfnkmlnbaianaaGreat
