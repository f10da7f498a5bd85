/-
  DomainOrder: for any clauses, literals and order the law returns true.
  Conditions: the arguments are together of bulk at most 1048576.
-/
import Derived.Test.YtjfnkmlnbaianaaGreatDZ
import Derived.Test.YtjfnkmlnbaianaaGreatDX
import Derived.JoinedCond
namespace Go.Proofs.YtjfnkmlnbaianaaGreat
open Go.E2 Go.Wage
theorem nOrder_args (avs : List AV) (h : ArgH [.sl 1 (.sl 3 litDt), .sl 3 litDt, .int .u8] avs) (hb : AV.wtL avs ≤ 1048576) : FnA Tryz.prog 6 avs (B true) := by
  match avs, h with
  | [a0, a1, a2], ⟨h0, h1, h2, h3, h4, h5, _⟩ =>
    obtain ⟨l0, rfl⟩ := arg_clauses h0 h1
    obtain ⟨g1, rfl⟩ := arg_lits h2 h3
    obtain ⟨x2, rfl, w2⟩ := arg_int h4 h5
    exact nOrder_all l0 g1 x2 (u8_of w2) (Nat.le_trans (wt_few (xs := []) (bs := [_]) hb) (by decide))
set_option maxRecDepth 100000 in
theorem nOrder_lifted (os : Os) (started : os.Started) (H : Type) (enc : TypeId × Value → H) (F : Stop.Interp) :
    ReturnsInHanded {} Tryz.checked os 6 .any ((Rows.OpenSpec.upto Rows.domainOrderSpec).pre6 enc Tryz.prog Tryz.f6 Rows.domainOrderUptoRow.domain false) (((Rows.OpenSpec.upto Rows.domainOrderSpec).at F).post enc Tryz.prog Tryz.f6 false true false false) := by
  refine returnsInHanded_of_cond (C := Tryz.checked) (s := Rows.OpenSpec.upto Rows.domainOrderSpec) (k := Rows.uptoSmall) rfl own started (by kernel_rfl) Tryz.func6
    (OpenSpec.witness (enc := enc) (C := Tryz.checked) (s := Rows.OpenSpec.upto Rows.domainOrderSpec) (k := Rows.uptoSmall) rfl false ⟨#[], #[.slice none 0 0, .slice none 0 0, .int .u8 0], []⟩ 8 (by kernel_rfl) (by kernel_rfl) (by kernel_rfl)
      (x := ([.nil, .nil, .lit (.int .u8 0)], [], [])) (by kernel_rfl) rfl (by kernel_rfl)) ?_
  intro W base args ds gs before hval hW _ hk _
  exact law_postB (s := Rows.domainOrderSpec) bulk_ok laid (by rw [Tryz.params6]; exact dlC (dlV (dl8 .nil))) (by kernel_rfl) Tryz.underlying4 rfl
    (fun l hl => by match l, hl with | [_, _, _], _ => rfl) nOrder_args hval hW (bulk_bd hk)
theorem nOrder_holds : Rows.DomainOrderUptoSaid :=
  OpenClaim.holds_of_cond 6 Tryz.f6 rfl rfl rfl rfl rfl rfl rfl ⟨rfl, rfl, rfl, rfl, rfl⟩ rfl rfl rfl rfl rfl (by kernel_rfl) Tryz.func6 (by kernel_rfl)
    (of_decide_eq_true (by kernel_rfl)) (by unfold Func.isWrapper; first | (rw [if_pos (by decide +kernel)]; kernel_rfl) | (rw [if_neg (by decide +kernel)]; exact ⟨rfl, rfl⟩))
    (fun os started H enc _ F => nOrder_lifted os started H enc F)
#print axioms nOrder_holds
end Go.Proofs.YtjfnkmlnbaianaaGreat
