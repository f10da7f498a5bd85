/-
  FactsBuilding: for any store the law returns true.
  Conditions: none.
-/
import Derived.Test.YtkdbijfkcjcjmaaRC
import Derived.Test.YtkdbijfkcjcjmaaF6
import Derived.Test.YtkdbijfkcjcjmaaF7B
namespace Go.Proofs.Ytkdbijfkcjcjmaa
open Go.E2 Go.Wage
theorem kBuilding_all (l : List Fa) (hls : ∀ g ∈ l, okZ g) (hll : l.length ≤ 9223372036854775807) : FnA Try.prog 8 [stav l] (B true) := by
  have hl2 : (l.map fcav).length = l.length := by simp
  have hh := head_ok
  by_cases hb : l.length ≤ 420
  · exact kBuilding_ok hh l hls (by omega)
  · refine fn_run (T := tab) Try.func8 rfl Try.ntmps8 rfl Try.results8 (fun _ => ?_)
    repeat' ((conv => whnf) <;> (first | refine Must.mk (fun h => h) ?_ | refine Must.mk (fun _ => rfl) ?_ | refine Must.mk Qw ?_ | intro _ | exact Fin.pure rfl | refine Fin.pure ?_ | refine Br.tt ?_ | refine Br.ff ?_ | (refine Br.mk (fun h => ?_) (fun h => ?_) <;> (try simp only [sh] at h) <;> (try first | (exfalso; omega) | exact absurd trivial h | (exfalso; simp at h; done))) | refine Ix.at ‹_› Qw ?_ | refine Ix.mapN Qw ?_ | refine Ix.mapN1 Qw ?_ | refine Ix.map Qw ?_ | refine Ix.at Qi Qw ?_ | refine Quo.nn Qw ?_ | refine Quo.t Qw ?_ | refine Rem.nn Qw ?_ | refine Rem.t Qw ?_ | refine LK.callA ent11 (hh) rfl rfl (SbL.refl _) ?_ | refine Ask.callA ent11 (fun h => hh) rfl rfl (SbL.refl _) ?_ | refine LK.callA ent11 (hh) rfl rfl Ql ?_ | refine Ask.callA ent11 (fun h => hh) rfl rfl Ql ?_ | refine Ask.ldB (T := tab) 0 rfl rfl rfl rfl ?_ | refine Ask.ldB (T := tab) 1 rfl rfl rfl rfl ?_ | refine Ask.ldBA (T := tab) 0 rfl rfl rfl rfl ?_ | refine Ask.ldBA (T := tab) 1 rfl rfl rfl rfl ?_ | refine AskR.cellA (T := tab) 0 rfl rfl rfl rfl ?_ | refine AskR.cellA (T := tab) 1 rfl rfl rfl rfl ?_ | refine AskR.cell1 (T := tab) 0 rfl rfl rfl rfl ?_ | refine AskR.cell1 (T := tab) 1 rfl rfl rfl rfl ?_ | refine LK.askW rfl ?_ | refine LK.st1 0 rfl rfl rfl rfl rfl rfl rfl ?_ | refine LK.st1 1 rfl rfl rfl rfl rfl rfl rfl ?_ | refine LK.stA 0 rfl rfl rfl rfl rfl rfl rfl rfl ?_ | refine LK.stA 1 rfl rfl rfl rfl rfl rfl rfl rfl ?_ | refine CK.any false Qk ?_ | fail))
theorem kBuilding_args (avs : List AV) (h : ArgH [storeDt] avs) : FnA Try.prog 8 avs (B true) := by
  match avs, h with
  | [a0], ⟨h0, h1, _⟩ =>
    obtain ⟨l0, rfl, hz0, hl0⟩ := arg_store h0 h1
    exact kBuilding_all l0 hz0 hl0
set_option maxRecDepth 100000 in
theorem kBuilding_lifted (os : Os) (started : os.Started) (H : Type) (enc : TypeId × Value → H) :
    ReturnsInHanded {} Try.checked os 8 .any (Rows.factsBuildingSpec.pre6 enc Try.prog Try.f8 Rows.factsBuildingRow.domain false) (Rows.factsBuildingSpec.post enc Try.prog Try.f8 false true false false) := by
  refine returnsInHanded_of_change (C := Try.checked) own started (by kernel_rfl) Try.func8
    (ChangeSpec.witness6 (enc := enc) (C := Try.checked) false ⟨#[], #[.agg #[.slice none 0 0]], []⟩ 8 (by kernel_rfl) (by kernel_rfl) (by kernel_rfl) (by kernel_rfl)) ?_
  intro W base args ds gs before hval hW _ _
  exact law_post laid (by rw [Try.params8]; exact dlT .nil) (by kernel_rfl) Try.underlying4 rfl
    (fun l hl => by match l, hl with | [_], _ => rfl) kBuilding_args hval hW
theorem kBuilding_holds : Rows.FactsBuildingSaid :=
  OpenClaim.holds_of_wide 8 Try.f8 rfl rfl rfl rfl rfl rfl rfl ⟨rfl, rfl, rfl, rfl, rfl⟩ rfl rfl rfl rfl rfl (by kernel_rfl) Try.func8 (by kernel_rfl)
    (of_decide_eq_true (by kernel_rfl)) (by unfold Func.isWrapper; first | (rw [if_pos (by decide +kernel)]; kernel_rfl) | (rw [if_neg (by decide +kernel)]; exact ⟨rfl, rfl⟩))
    (fun os started H enc _ => kBuilding_lifted os started H enc)
#print axioms kBuilding_holds
end Go.Proofs.Ytkdbijfkcjcjmaa
