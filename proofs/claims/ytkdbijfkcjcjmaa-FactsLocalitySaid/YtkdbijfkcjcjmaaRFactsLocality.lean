/-
  FactsLocality: for any store, names and days the law returns true.
  Conditions: none.
-/
import Derived.Test.YtkdbijfkcjcjmaaRC
import Derived.Test.YtkdbijfkcjcjmaaF6
import Derived.Test.YtkdbijfkcjcjmaaF7C
namespace Go.Proofs.Ytkdbijfkcjcjmaa
open Go.E2 Go.Wage
theorem kLocality_all (l : List Fa) (p n : ByteArray) (d t : Int) (hls : ∀ g ∈ l, okZ g) (hll : l.length ≤ 9223372036854775807) :
    FnA Try.prog 6 [stav l, .v (.string p), .v (.string n), I d, I t] (B true) := by
  have hl2 : (l.map fcav).length = l.length := by simp
  have hh := head_ok
  by_cases hb : l.length ≤ 420
  · exact kLocality_ok hh l p n d t hls (by omega)
  · have c1 := valid_ok l hls hll
    refine fn_run (T := tab) Try.func6 rfl Try.ntmps6 rfl Try.results6 (fun _ => ?_)
    repeat' ((conv => whnf) <;> (first | refine Must.mk (fun h => h) ?_ | refine Must.mk (fun _ => rfl) ?_ | refine Must.mk Qw ?_ | intro _ | exact Fin.pure rfl | refine Fin.pure ?_ | refine Br.tt ?_ | refine Br.ff ?_ | (refine Br.mk (fun h => ?_) (fun h => ?_) <;> (try simp only [sh] at h) <;> (try first | (exfalso; omega) | exact absurd trivial h | (exfalso; simp at h; done))) | refine Ix.at ‹_› Qw ?_ | refine Ix.mapN Qw ?_ | refine Ix.mapN1 Qw ?_ | refine Ix.map Qw ?_ | refine Ix.at Qi Qw ?_ | refine Quo.nn Qw ?_ | refine Quo.t Qw ?_ | refine Rem.nn Qw ?_ | refine Rem.t Qw ?_ | refine LK.callA ent11 (hh) rfl rfl (SbL.refl _) ?_ | refine Ask.callA ent11 (fun h => hh) rfl rfl (SbL.refl _) ?_ | refine LK.callA ent11 (hh) rfl rfl Ql ?_ | refine Ask.callA ent11 (fun h => hh) rfl rfl Ql ?_ | refine LK.callA ent16 (c1) rfl rfl (SbL.refl _) ?_ | refine Ask.callA ent16 (fun h => c1) rfl rfl (SbL.refl _) ?_ | refine LK.callA ent16 (c1) rfl rfl Ql ?_ | refine Ask.callA ent16 (fun h => c1) rfl rfl Ql ?_ | refine Ask.ldB (T := tab) 0 rfl rfl rfl rfl ?_ | refine Ask.ldB (T := tab) 1 rfl rfl rfl rfl ?_ | refine Ask.ldBA (T := tab) 0 rfl rfl rfl rfl ?_ | refine Ask.ldBA (T := tab) 1 rfl rfl rfl rfl ?_ | refine AskR.cellA (T := tab) 0 rfl rfl rfl rfl ?_ | refine AskR.cellA (T := tab) 1 rfl rfl rfl rfl ?_ | refine AskR.cell1 (T := tab) 0 rfl rfl rfl rfl ?_ | refine AskR.cell1 (T := tab) 1 rfl rfl rfl rfl ?_ | refine LK.askW rfl ?_ | refine LK.st1 0 rfl rfl rfl rfl rfl rfl rfl ?_ | refine LK.st1 1 rfl rfl rfl rfl rfl rfl rfl ?_ | refine LK.stA 0 rfl rfl rfl rfl rfl rfl rfl rfl ?_ | refine LK.stA 1 rfl rfl rfl rfl rfl rfl rfl rfl ?_ | refine CK.any false Qk ?_ | fail))
theorem kLocality_args (avs : List AV) (h : ArgH [storeDt, .str, .str, .int .i64, .int .i64] avs) : FnA Try.prog 6 avs (B true) := by
  match avs, h with
  | [a0, a1, a2, a3, a4], ⟨h0, h1, h2, h3, h4, h5, h6, h7, h8, h9, _⟩ =>
    obtain ⟨l0, rfl, hz0, hl0⟩ := arg_store h0 h1
    obtain ⟨s1, rfl, _⟩ := arg_str h2 h3
    obtain ⟨s2, rfl, _⟩ := arg_str h4 h5
    obtain ⟨x3, rfl, _⟩ := arg_int h6 h7
    obtain ⟨x4, rfl, _⟩ := arg_int h8 h9
    exact kLocality_all l0 s1 s2 x3 x4 hz0 hl0
set_option maxRecDepth 100000 in
theorem kLocality_lifted (os : Os) (started : os.Started) (H : Type) (enc : TypeId × Value → H) :
    ReturnsInHanded {} Try.checked os 6 .any (Rows.factsLocalitySpec.pre6 enc Try.prog Try.f6 Rows.factsLocalityRow.domain false) (Rows.factsLocalitySpec.post enc Try.prog Try.f6 false true false false) := by
  refine returnsInHanded_of_change (C := Try.checked) own started (by kernel_rfl) Try.func6
    (ChangeSpec.witness6 (enc := enc) (C := Try.checked) false ⟨#[], #[.agg #[.slice none 0 0], .string ⟨#[]⟩, .string ⟨#[]⟩, .int .i64 0, .int .i64 0], []⟩ 8 (by kernel_rfl) (by kernel_rfl) (by kernel_rfl) (by kernel_rfl)) ?_
  intro W base args ds gs before hval hW _ _
  exact law_post laid (by rw [Try.params6]; exact dlT (dlS (dlS (dlI (dlI .nil))))) (by kernel_rfl) Try.underlying4 rfl
    (fun l hl => by match l, hl with | [_, _, _, _, _], _ => rfl) kLocality_args hval hW
theorem kLocality_holds : Rows.FactsLocalitySaid :=
  OpenClaim.holds_of_wide 6 Try.f6 rfl rfl rfl rfl rfl rfl rfl ⟨rfl, rfl, rfl, rfl, rfl⟩ rfl rfl rfl rfl rfl (by kernel_rfl) Try.func6 (by kernel_rfl)
    (of_decide_eq_true (by kernel_rfl)) (by unfold Func.isWrapper; first | (rw [if_pos (by decide +kernel)]; kernel_rfl) | (rw [if_neg (by decide +kernel)]; exact ⟨rfl, rfl⟩))
    (fun os started H enc _ => kLocality_lifted os started H enc)
#print axioms kLocality_holds
end Go.Proofs.Ytkdbijfkcjcjmaa
