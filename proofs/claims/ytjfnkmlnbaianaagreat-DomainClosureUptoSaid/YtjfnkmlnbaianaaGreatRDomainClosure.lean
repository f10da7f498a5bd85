/-
  DomainClosure: for any clauses and literals the law returns true.
  Conditions: the arguments are together of bulk at most 1048576.
-/
import Derived.Test.YtjfnkmlnbaianaaGreatDZ
import Derived.Test.YtjfnkmlnbaianaaGreatDV
import Derived.JoinedCond
namespace Go.Proofs.YtjfnkmlnbaianaaGreat
open Go.E2 Go.Wage
theorem nClosure_args (avs : List AV) (h : ArgH [.sl 1 (.sl 3 litDt), .sl 3 litDt] avs) (hb : AV.wtL avs ≤ 1048576) : FnA Tryz.prog 5 avs (B true) := by
  match avs, h with
  | [a0, a1], ⟨h0, h1, h2, h3, _⟩ =>
    obtain ⟨l0, rfl⟩ := arg_clauses h0 h1
    obtain ⟨g1, rfl⟩ := arg_lits h2 h3
    exact nClosure_all l0 g1  (Nat.le_trans (wt_few (xs := []) (bs := []) hb) (by decide))
set_option maxRecDepth 100000 in
theorem nClosure_lifted (os : Os) (started : os.Started) (H : Type) (enc : TypeId × Value → H) (F : Stop.Interp) :
    ReturnsInHanded {} Tryz.checked os 5 .any ((Rows.OpenSpec.upto Rows.domainClosureSpec).pre6 enc Tryz.prog Tryz.f5 Rows.domainClosureUptoRow.domain false) (((Rows.OpenSpec.upto Rows.domainClosureSpec).at F).post enc Tryz.prog Tryz.f5 false true false false) := by
  refine returnsInHanded_of_cond (C := Tryz.checked) (s := Rows.OpenSpec.upto Rows.domainClosureSpec) (k := Rows.uptoSmall) rfl own started (by kernel_rfl) Tryz.func5
    (OpenSpec.witness (enc := enc) (C := Tryz.checked) (s := Rows.OpenSpec.upto Rows.domainClosureSpec) (k := Rows.uptoSmall) rfl false ⟨#[], #[.slice none 0 0, .slice none 0 0], []⟩ 8 (by kernel_rfl) (by kernel_rfl) (by kernel_rfl)
      (x := ([.nil, .nil], [], [])) (by kernel_rfl) rfl (by kernel_rfl)) ?_
  intro W base args ds gs before hval hW _ hk _
  exact law_postB (s := Rows.domainClosureSpec) bulk_ok laid (by rw [Tryz.params5]; exact dlC (dlV .nil)) (by kernel_rfl) Tryz.underlying4 rfl
    (fun l hl => by match l, hl with | [_, _], _ => rfl) nClosure_args hval hW (bulk_bd hk)
theorem nClosure_holds : Rows.DomainClosureUptoSaid :=
  OpenClaim.holds_of_cond 5 Tryz.f5 rfl rfl rfl rfl rfl rfl rfl ⟨rfl, rfl, rfl, rfl, rfl⟩ rfl rfl rfl rfl rfl (by kernel_rfl) Tryz.func5 (by kernel_rfl)
    (of_decide_eq_true (by kernel_rfl)) (by unfold Func.isWrapper; first | (rw [if_pos (by decide +kernel)]; kernel_rfl) | (rw [if_neg (by decide +kernel)]; exact ⟨rfl, rfl⟩))
    (fun os started H enc _ F => nClosure_lifted os started H enc F)
#print axioms nClosure_holds
end Go.Proofs.YtjfnkmlnbaianaaGreat
