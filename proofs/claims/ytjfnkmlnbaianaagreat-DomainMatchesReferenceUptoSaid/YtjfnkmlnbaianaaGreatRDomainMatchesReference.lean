/-
  DomainMatchesReference: for any plan, clauses and literals the law returns true.
  Conditions: the arguments are together of bulk at most 1048576.
-/
import Derived.Test.YtjfnkmlnbaianaaGreatDZ
import Derived.Test.YtjfnkmlnbaianaaGreatDR
import Derived.JoinedCond
namespace Go.Proofs.YtjfnkmlnbaianaaGreat
open Go.E2 Go.Wage
theorem nMatches_args (avs : List AV) (h : ArgH [planDt, .sl 1 (.sl 3 litDt), .sl 3 litDt] avs) (hb : AV.wtL avs ≤ 1048576) : FnA Tryz.prog 3 avs (B true) := by
 match avs, h with
 | [a0, a1, a2], ⟨h0, h1, h2, h3, h4, h5, _⟩ =>
  obtain ⟨p0, rfl, hz0⟩ := arg_plan h0 h1
  obtain ⟨l1, rfl⟩ := arg_clauses h2 h3
  obtain ⟨g2, rfl⟩ := arg_lits h4 h5
  exact nMatches_all p0 l1 g2 hz0 (Nat.le_trans (wt_few (xs := [_]) (bs := []) hb) (by decide))
set_option maxRecDepth 100000 in
theorem nMatches_lifted (os : Os) (started : os.Started) (H : Type) (enc : TypeId × Value → H) (F : Stop.Interp) :
  ReturnsInHanded {} Tryz.checked os 3 .any ((Rows.OpenSpec.upto Rows.domainMatchesReferenceSpec).pre6 enc Tryz.prog Tryz.f3 Rows.domainMatchesReferenceUptoRow.domain false) (((Rows.OpenSpec.upto Rows.domainMatchesReferenceSpec).at F).post enc Tryz.prog Tryz.f3 false true false false) := by
 refine returnsInHanded_of_cond (C := Tryz.checked) (s := Rows.OpenSpec.upto Rows.domainMatchesReferenceSpec) (k := Rows.uptoSmall) rfl own started (by kernel_rfl) Tryz.func3
  (OpenSpec.witness (enc := enc) (C := Tryz.checked) (s := Rows.OpenSpec.upto Rows.domainMatchesReferenceSpec) (k := Rows.uptoSmall) rfl false ⟨#[], #[.agg #[.string ⟨#[]⟩, .int .i64 0, .slice none 0 0, .slice none 0 0, .slice none 0 0, .int .i64 0, .int .i64 0, .int .i64 0, .int .i64 0, .int .i64 0], .slice none 0 0, .slice none 0 0], []⟩ 8 (by kernel_rfl) (by kernel_rfl) (by kernel_rfl)
   (x := ([.agg [.agg [.lit (.string []), .lit (.int .i64 0), .nil], .nil, .nil, .agg [.lit (.int .i64 0), .lit (.int .i64 0), .agg [.lit (.int .i64 0), .lit (.int .i64 0)], .lit (.int .i64 0)]], .nil, .nil], [], [])) (by kernel_rfl) rfl (by kernel_rfl)) ?_
 intro W base args ds gs before hval hW _ hk _
 exact law_postB (s := Rows.domainMatchesReferenceSpec) bulk_ok laid (by rw [Tryz.params3]; exact dlP (dlC (dlV .nil))) (by kernel_rfl) Tryz.underlying4 rfl
  (fun l hl => by match l, hl with | [_, _, _], _ => rfl) nMatches_args hval hW (bulk_bd hk)
theorem nMatches_holds : Rows.DomainMatchesReferenceUptoSaid :=
 OpenClaim.holds_of_cond 3 Tryz.f3 rfl rfl rfl rfl rfl rfl rfl ⟨rfl, rfl, rfl, rfl, rfl⟩ rfl rfl rfl rfl rfl (by kernel_rfl) Tryz.func3 (by kernel_rfl)
  (of_decide_eq_true (by kernel_rfl)) (by unfold Func.isWrapper; first | (rw [if_pos (by decide +kernel)]; kernel_rfl) | (rw [if_neg (by decide +kernel)]; exact ⟨rfl, rfl⟩))
  (fun os started H enc _ F => nMatches_lifted os started H enc F)
#print axioms nMatches_holds
end Go.Proofs.YtjfnkmlnbaianaaGreat
