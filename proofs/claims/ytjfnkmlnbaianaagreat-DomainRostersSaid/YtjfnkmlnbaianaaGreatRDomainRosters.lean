/-
  DomainRosters: for any plan and picks the law returns true.
  Conditions: none.
-/
import Derived.Test.YtjfnkmlnbaianaaGreatDZ
import Derived.Test.YtjfnkmlnbaianaaGreatDT
namespace Go.Proofs.YtjfnkmlnbaianaaGreat
open Go.E2 Go.Wage
theorem nRosters_args (avs : List AV) (h : ArgH [planDt, .sl 1 (.int .u8)] avs) : FnA Tryz.prog 9 avs (B true) := by
 match avs, h with
 | [a0, a1], ⟨h0, h1, h2, h3, _⟩ =>
  obtain ⟨p0, rfl, hz0⟩ := arg_plan h0 h1
  obtain ⟨l1, rfl, hl1, hb1⟩ := arg_u8s h2 h3
  exact nRosters_all p0 l1 hz0 hl1 hb1
set_option maxRecDepth 100000 in
theorem nRosters_lifted (os : Os) (started : os.Started) (H : Type) (enc : TypeId × Value → H) :
  ReturnsInHanded {} Tryz.checked os 9 .any (Rows.domainRostersSpec.pre6 enc Tryz.prog Tryz.f9 Rows.domainRostersRow.domain false) (Rows.domainRostersSpec.post enc Tryz.prog Tryz.f9 false true false false) := by
 refine returnsInHanded_of_change (C := Tryz.checked) own started (by kernel_rfl) Tryz.func9
  (ChangeSpec.witness6 (enc := enc) (C := Tryz.checked) false ⟨#[], #[.agg #[.string ⟨#[]⟩, .int .i64 0, .slice none 0 0, .slice none 0 0, .slice none 0 0, .int .i64 0, .int .i64 0, .int .i64 0, .int .i64 0, .int .i64 0], .slice none 0 0], []⟩ 8 (by kernel_rfl) (by kernel_rfl) (by kernel_rfl) (by kernel_rfl)) ?_
 intro W base args ds gs before hval hW _ _
 exact law_post laid (by rw [Tryz.params9]; exact dlP (dlE .nil)) (by kernel_rfl) Tryz.underlying4 rfl
  (fun l hl => by match l, hl with | [_, _], _ => rfl) nRosters_args hval hW
theorem nRosters_holds : Rows.DomainRostersSaid :=
 OpenClaim.holds_of_wide 9 Tryz.f9 rfl rfl rfl rfl rfl rfl rfl ⟨rfl, rfl, rfl, rfl, rfl⟩ rfl rfl rfl rfl rfl (by kernel_rfl) Tryz.func9 (by kernel_rfl)
  (of_decide_eq_true (by kernel_rfl)) (by unfold Func.isWrapper; first | (rw [if_pos (by decide +kernel)]; kernel_rfl) | (rw [if_neg (by decide +kernel)]; exact ⟨rfl, rfl⟩))
  (fun os started H enc _ => nRosters_lifted os started H enc)
#print axioms nRosters_holds
end Go.Proofs.YtjfnkmlnbaianaaGreat
