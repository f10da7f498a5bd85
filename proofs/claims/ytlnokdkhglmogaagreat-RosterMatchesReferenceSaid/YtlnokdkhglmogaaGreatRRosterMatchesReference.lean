/-
  RosterMatchesReference: for any plan and roster the law returns true.
  Conditions: none.
-/
import Derived.Test.YtlnokdkhglmogaaGreatRD
import Derived.Test.YtlnokdkhglmogaaGreatRF3
namespace Go.Proofs.YtlnokdkhglmogaaGreat
open Go.E2 Go.Wage
theorem small30 {p : Pl} {ro : List Int} (h : smallV p ro 30 = true) : Small p := by
  have h := smallV_iff.1 h
  exact ⟨by omega, by omega, by omega, fun w hw => by have := h.2.2.2.2 w hw; omega⟩
set_option maxRecDepth 4000 in
set_option maxHeartbeats 8000000 in
theorem xMatches_all (p : Pl) (ro : List Int) (hz : PlZ p) (hr : ro.length ≤ 9223372036854775807) :
    FnA Tryz.prog 3 [.agg (pcs p), .sl 1 (ro.map I)] (B true) := by
  have c0 := xHead_ok
  have c1 := vSmall_ok p ro 30 hz.ch hz.wk hr hz.aw
  have hld : (p.duties.map duav).length = p.duties.length := by simp
  have hdu := hz.du
  by_cases hs : smallV p ro 30 = true
  · have hsm := small30 hs
    have h40 := (smallV_iff.1 hs).2.1
    rw [hs] at c1
    have c2 := oBad_ok p ro hsm
    have c3 := v8Bad_ok p ro hsm (by omega)
    have c4 := oCost_ok p ro hsm
    have c5 := v8Cost_ok p ro hsm (by omega)
    have c6 := oValid_ok p hsm
    have c7 := v8Valid_ok p hsm
    have hb : (if okRo p ro = true then badP p ro else []).length ≤ 1000000000 := by
      split
      · rename_i hk
        unfold okRo at hk
        rw [Bool.and_eq_true_iff] at hk
        have := badP_le hk.1 (isRo_iff.1 hk.2).1
        omega
      · simp
    have c8 := vSame_ok (if okRo p ro = true then badP p ro else []) (if okRo p ro = true then badP p ro else []) hb
    rw [decide_eq_true rfl] at c8
    refine fn_run (T := tab) Tryz.func3 rfl Tryz.ntmps3 rfl Tryz.results3 (fun _ => ?_)
    repeat' ((conv => whnf) <;> (first | refine Must.mk (fun h => h) ?_ | refine Must.mk (fun _ => rfl) ?_ | refine Must.mk Qw ?_ | refine MW.ok Qw ?_ | intro _ | exact Fin.pure rfl | refine Br.tt ?_ | refine Br.ff ?_ | (refine Br.mk (fun h => ?_) (fun h => ?_) <;> (try simp only [sh] at h) <;> (try first | (exfalso; omega) | exact absurd trivial h | (exfalso; simp at h; done))) | refine Ix.at ‹_› Qw ?_ | refine Ix.mapN Qw ?_ | refine Ix.mapN1 Qw ?_ | refine Ix.map Qw ?_ | refine Ix.at Qi Qw ?_ | refine LK.callA ent11 (c0) rfl rfl (SbL.refl _) ?_ | refine Ask.callA ent11 (fun h => c0) rfl rfl (SbL.refl _) ?_ | refine LK.callA ent11 (c0) rfl rfl Ql ?_ | refine Ask.callA ent11 (fun h => c0) rfl rfl Ql ?_ | refine LK.callA ent12 (c1) rfl rfl (SbL.refl _) ?_ | refine Ask.callA ent12 (fun h => c1) rfl rfl (SbL.refl _) ?_ | refine LK.callA ent12 (c1) rfl rfl Ql ?_ | refine Ask.callA ent12 (fun h => c1) rfl rfl Ql ?_ | refine LK.callA ent13 (c2) rfl rfl (SbL.refl _) ?_ | refine Ask.callA ent13 (fun h => c2) rfl rfl (SbL.refl _) ?_ | refine LK.callA ent13 (c2) rfl rfl Ql ?_ | refine Ask.callA ent13 (fun h => c2) rfl rfl Ql ?_ | refine LK.callA ent14 (c3) rfl rfl (SbL.refl _) ?_ | refine Ask.callA ent14 (fun h => c3) rfl rfl (SbL.refl _) ?_ | refine LK.callA ent14 (c3) rfl rfl Ql ?_ | refine Ask.callA ent14 (fun h => c3) rfl rfl Ql ?_ | refine LK.callA ent15 (c4) rfl rfl (SbL.refl _) ?_ | refine Ask.callA ent15 (fun h => c4) rfl rfl (SbL.refl _) ?_ | refine LK.callA ent15 (c4) rfl rfl Ql ?_ | refine Ask.callA ent15 (fun h => c4) rfl rfl Ql ?_ | refine LK.callA ent16 (c5) rfl rfl (SbL.refl _) ?_ | refine Ask.callA ent16 (fun h => c5) rfl rfl (SbL.refl _) ?_ | refine LK.callA ent16 (c5) rfl rfl Ql ?_ | refine Ask.callA ent16 (fun h => c5) rfl rfl Ql ?_ | refine LK.callA ent17 (c6) rfl rfl (SbL.refl _) ?_ | refine Ask.callA ent17 (fun h => c6) rfl rfl (SbL.refl _) ?_ | refine LK.callA ent17 (c6) rfl rfl Ql ?_ | refine Ask.callA ent17 (fun h => c6) rfl rfl Ql ?_ | refine LK.callA ent18 (c7) rfl rfl (SbL.refl _) ?_ | refine Ask.callA ent18 (fun h => c7) rfl rfl (SbL.refl _) ?_ | refine LK.callA ent18 (c7) rfl rfl Ql ?_ | refine Ask.callA ent18 (fun h => c7) rfl rfl Ql ?_ | refine LK.callA ent19 (c8) rfl rfl (SbL.refl _) ?_ | refine Ask.callA ent19 (fun h => c8) rfl rfl (SbL.refl _) ?_ | refine LK.callA ent19 (c8) rfl rfl Ql ?_ | refine Ask.callA ent19 (fun h => c8) rfl rfl Ql ?_ | refine lB (T := tab) ?_ | refine lBA (T := tab) ?_ | refine LK.askW rfl ?_ | refine s1 ?_ | refine sA ?_ | refine CK.any false Qk ?_ | fail))
    all_goals (conv => whnf)
    all_goals (refine Fin.pure (congrArg B ?_); simp)
  · rw [Bool.eq_false_iff.2 hs] at c1
    refine fn_run (T := tab) Tryz.func3 rfl Tryz.ntmps3 rfl Tryz.results3 (fun _ => ?_)
    repeat' ((conv => whnf) <;> (first | refine Must.mk (fun h => h) ?_ | refine Must.mk (fun _ => rfl) ?_ | refine Must.mk Qw ?_ | refine MW.ok Qw ?_ | intro _ | exact Fin.pure rfl | refine Fin.pure ?_ | refine Br.tt ?_ | refine Br.ff ?_ | (refine Br.mk (fun h => ?_) (fun h => ?_) <;> (try simp only [sh] at h) <;> (try first | (exfalso; omega) | exact absurd trivial h | (exfalso; simp at h; done))) | refine Ix.at ‹_› Qw ?_ | refine Ix.mapN Qw ?_ | refine Ix.mapN1 Qw ?_ | refine Ix.map Qw ?_ | refine Ix.at Qi Qw ?_ | refine LK.callA ent11 (c0) rfl rfl (SbL.refl _) ?_ | refine Ask.callA ent11 (fun h => c0) rfl rfl (SbL.refl _) ?_ | refine LK.callA ent11 (c0) rfl rfl Ql ?_ | refine Ask.callA ent11 (fun h => c0) rfl rfl Ql ?_ | refine LK.callA ent12 (c1) rfl rfl (SbL.refl _) ?_ | refine Ask.callA ent12 (fun h => c1) rfl rfl (SbL.refl _) ?_ | refine LK.callA ent12 (c1) rfl rfl Ql ?_ | refine Ask.callA ent12 (fun h => c1) rfl rfl Ql ?_ | refine lB (T := tab) ?_ | refine lBA (T := tab) ?_ | refine LK.askW rfl ?_ | refine s1 ?_ | refine sA ?_ | refine CK.any false Qk ?_ | fail))
theorem xMatches_args (avs : List AV) (h : ArgH [planDt, .sl 1 (.int .i64)] avs) : FnA Tryz.prog 3 avs (B true) := by
  match avs, h with
  | [a0, a1], ⟨h0, h1, h2, h3, _⟩ =>
    obtain ⟨p0, rfl, hz0⟩ := arg_plan h0 h1
    obtain ⟨l1, rfl, hl1⟩ := arg_ints h2 h3
    exact xMatches_all p0 l1 hz0 hl1
set_option maxRecDepth 100000 in
theorem xMatches_lifted (os : Os) (started : os.Started) (H : Type) (enc : TypeId × Value → H) :
    ReturnsInHanded {} Tryz.checked os 3 .any (Rows.rosterMatchesReferenceSpec.pre6 enc Tryz.prog Tryz.f3 Rows.rosterMatchesReferenceRow.domain false) (Rows.rosterMatchesReferenceSpec.post enc Tryz.prog Tryz.f3 false true false false) := by
  refine returnsInHanded_of_change (C := Tryz.checked) own started (by kernel_rfl) Tryz.func3
    (ChangeSpec.witness6 (enc := enc) (C := Tryz.checked) false ⟨#[], #[.agg #[.string ⟨#[]⟩, .int .i64 0, .slice none 0 0, .slice none 0 0, .slice none 0 0, .int .i64 0, .int .i64 0, .int .i64 0, .int .i64 0, .int .i64 0], .slice none 0 0], []⟩ 8 (by kernel_rfl) (by kernel_rfl) (by kernel_rfl) (by kernel_rfl)) ?_
  intro W base args ds gs before hval hW _ _
  exact law_post laid (by rw [Tryz.params3]; exact dlP (dlD .nil)) (by kernel_rfl) Tryz.underlying4 rfl
    (fun l hl => by match l, hl with | [_, _], _ => rfl) xMatches_args hval hW
theorem xMatches_holds : Rows.RosterMatchesReferenceSaid :=
  OpenClaim.holds_of_wide 3 Tryz.f3 rfl rfl rfl rfl rfl rfl rfl ⟨rfl, rfl, rfl, rfl, rfl⟩ rfl rfl rfl rfl rfl (by kernel_rfl) Tryz.func3 (by kernel_rfl)
    (of_decide_eq_true (by kernel_rfl)) (by unfold Func.isWrapper; first | (rw [if_pos (by decide +kernel)]; kernel_rfl) | (rw [if_neg (by decide +kernel)]; exact ⟨rfl, rfl⟩))
    (fun os started H enc _ => xMatches_lifted os started H enc)
#print axioms xMatches_holds
end Go.Proofs.YtlnokdkhglmogaaGreat
