/-
  FactsMatchesReference: for any store, fact, names and days the law returns true.
  Conditions: none.
-/
import Derived.Test.YtkdbijfkcjcjmaaRC
import Derived.Test.YtkdbijfkcjcjmaaF6
import Derived.Test.YtkdbijfkcjcjmaaF8
namespace Go.Proofs.Ytkdbijfkcjcjmaa
open Go.E2 Go.Wage
theorem kMatches_all (fs : List Fa) (f : Fa) (p n : ByteArray) (d t o : Int) (hsz : ∀ g ∈ fs, okZ g) (hlen : fs.length ≤ 9223372036854775807) (hf : okZ f) :
    FnA Try.prog 3 [stav fs, fcav f, .v (.string p), .v (.string n), I d, I t, I o] (B true) := kMatches_ok head_ok fs f p n d t o hsz hlen hf
theorem kMatches_args (avs : List AV) (h : ArgH [storeDt, factDt, .str, .str, .int .i64, .int .i64, .int .i64] avs) : FnA Try.prog 3 avs (B true) := by
  match avs, h with
  | [a0, a1, a2, a3, a4, a5, a6], ⟨h0, h1, h2, h3, h4, h5, h6, h7, h8, h9, h10, h11, h12, h13, _⟩ =>
    obtain ⟨l0, rfl, hz0, hl0⟩ := arg_store h0 h1
    obtain ⟨f1, rfl, hz1⟩ := has_fact h2 h3
    obtain ⟨s2, rfl, _⟩ := arg_str h4 h5
    obtain ⟨s3, rfl, _⟩ := arg_str h6 h7
    obtain ⟨x4, rfl, _⟩ := arg_int h8 h9
    obtain ⟨x5, rfl, _⟩ := arg_int h10 h11
    obtain ⟨x6, rfl, _⟩ := arg_int h12 h13
    exact kMatches_all l0 f1 s2 s3 x4 x5 x6 hz0 hl0 hz1
set_option maxRecDepth 100000 in
theorem kMatches_lifted (os : Os) (started : os.Started) (H : Type) (enc : TypeId × Value → H) :
    ReturnsInHanded {} Try.checked os 3 .any (Rows.factsMatchesReferenceSpec.pre6 enc Try.prog Try.f3 Rows.factsMatchesReferenceRow.domain false) (Rows.factsMatchesReferenceSpec.post enc Try.prog Try.f3 false true false false) := by
  refine returnsInHanded_of_change (C := Try.checked) own started (by kernel_rfl) Try.func3
    (ChangeSpec.witness6 (enc := enc) (C := Try.checked) false ⟨#[], #[.agg #[.slice none 0 0], .agg #[.string ⟨#[]⟩, .string ⟨#[]⟩, .int .i64 0, .int .i64 0, .int .i64 0, .int .i64 0, .bool false], .string ⟨#[]⟩, .string ⟨#[]⟩, .int .i64 0, .int .i64 0, .int .i64 0], []⟩ 8 (by kernel_rfl) (by kernel_rfl) (by kernel_rfl) (by kernel_rfl)) ?_
  intro W base args ds gs before hval hW _ _
  exact law_post laid (by rw [Try.params3]; exact dlT (dlF (dlS (dlS (dlI (dlI (dlI .nil))))))) (by kernel_rfl) Try.underlying4 rfl
    (fun l hl => by match l, hl with | [_, _, _, _, _, _, _], _ => rfl) kMatches_args hval hW
theorem kMatches_holds : Rows.FactsMatchesReferenceSaid :=
  OpenClaim.holds_of_wide 3 Try.f3 rfl rfl rfl rfl rfl rfl rfl ⟨rfl, rfl, rfl, rfl, rfl⟩ rfl rfl rfl rfl rfl (by kernel_rfl) Try.func3 (by kernel_rfl)
    (of_decide_eq_true (by kernel_rfl)) (by unfold Func.isWrapper; first | (rw [if_pos (by decide +kernel)]; kernel_rfl) | (rw [if_neg (by decide +kernel)]; exact ⟨rfl, rfl⟩))
    (fun os started H enc _ => kMatches_lifted os started H enc)
#print axioms kMatches_holds
end Go.Proofs.Ytkdbijfkcjcjmaa
