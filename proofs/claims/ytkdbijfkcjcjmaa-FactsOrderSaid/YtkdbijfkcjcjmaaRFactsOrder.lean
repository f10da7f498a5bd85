/-
  FactsOrder: for any store, place, names and days the law returns true.
  Conditions: none.
-/
import Derived.Test.YtkdbijfkcjcjmaaRC
import Derived.Test.YtkdbijfkcjcjmaaF6
import Derived.Test.YtkdbijfkcjcjmaaF7E
namespace Go.Proofs.Ytkdbijfkcjcjmaa
open Go.E2 Go.Wage
theorem kOrder_all (fs : List Fa) (at_ : Int) (p n : ByteArray) (d t : Int) (hsz : ∀ g ∈ fs, okZ g) (hlen : fs.length ≤ 9223372036854775807) (w : (Lit.int .u16 at_).wf = true) :
    FnA Try.prog 7 [stav fs, .v (.int .u16 at_), .v (.string p), .v (.string n), I d, I t] (B true) :=
  kOrder_ok head_ok fs at_ p n d t hsz hlen (by simpa [Lit.wf, IntKind.min, IntKind.max, IntKind.signed, IntKind.bits] using w)
theorem kOrder_args (avs : List AV) (h : ArgH [storeDt, .int .u16, .str, .str, .int .i64, .int .i64] avs) : FnA Try.prog 7 avs (B true) := by
  match avs, h with
  | [a0, a1, a2, a3, a4, a5], ⟨h0, h1, h2, h3, h4, h5, h6, h7, h8, h9, h10, h11, _⟩ =>
    obtain ⟨l0, rfl, hz0, hl0⟩ := arg_store h0 h1
    obtain ⟨x1, rfl, w1⟩ := arg_int h2 h3
    obtain ⟨s2, rfl, _⟩ := arg_str h4 h5
    obtain ⟨s3, rfl, _⟩ := arg_str h6 h7
    obtain ⟨x4, rfl, _⟩ := arg_int h8 h9
    obtain ⟨x5, rfl, _⟩ := arg_int h10 h11
    exact kOrder_all l0 x1 s2 s3 x4 x5 hz0 hl0 w1
set_option maxRecDepth 100000 in
theorem kOrder_lifted (os : Os) (started : os.Started) (H : Type) (enc : TypeId × Value → H) :
    ReturnsInHanded {} Try.checked os 7 .any (Rows.factsOrderSpec.pre6 enc Try.prog Try.f7 Rows.factsOrderRow.domain false) (Rows.factsOrderSpec.post enc Try.prog Try.f7 false true false false) := by
  refine returnsInHanded_of_change (C := Try.checked) own started (by kernel_rfl) Try.func7
    (ChangeSpec.witness6 (enc := enc) (C := Try.checked) false ⟨#[], #[.agg #[.slice none 0 0], .int .u16 0, .string ⟨#[]⟩, .string ⟨#[]⟩, .int .i64 0, .int .i64 0], []⟩ 8 (by kernel_rfl) (by kernel_rfl) (by kernel_rfl) (by kernel_rfl)) ?_
  intro W base args ds gs before hval hW _ _
  exact law_post laid (by rw [Try.params7]; exact dlT (dlU (dlS (dlS (dlI (dlI .nil)))))) (by kernel_rfl) Try.underlying4 rfl
    (fun l hl => by match l, hl with | [_, _, _, _, _, _], _ => rfl) kOrder_args hval hW
theorem kOrder_holds : Rows.FactsOrderSaid :=
  OpenClaim.holds_of_wide 7 Try.f7 rfl rfl rfl rfl rfl rfl rfl ⟨rfl, rfl, rfl, rfl, rfl⟩ rfl rfl rfl rfl rfl (by kernel_rfl) Try.func7 (by kernel_rfl)
    (of_decide_eq_true (by kernel_rfl)) (by unfold Func.isWrapper; first | (rw [if_pos (by decide +kernel)]; kernel_rfl) | (rw [if_neg (by decide +kernel)]; exact ⟨rfl, rfl⟩))
    (fun os started H enc _ => kOrder_lifted os started H enc)
#print axioms kOrder_holds
end Go.Proofs.Ytkdbijfkcjcjmaa
