/-
  Law 20: PlannerWorkable.
  Conditions: those of each theorem.
-/
import Derived.Test.YtecemgicnboaaaaGreatNB5
namespace Go.Proofs.YtecemgicnboaaaaGreat
open Go.E2 Go.Wage
theorem solve_good {p : Pl} {st : Int} (hv : validP p = true) (hst : 0 ≤ st ∧ st ≤ 100000) :
    (∃ ro lg, solveP p st = ⟨ro, costP p ro p.duties, lg, 0⟩ ∧ ro.length = p.duties.length ∧ (∀ w ∈ ro, 0 ≤ w ∧ w < p.workers.length) ∧ badP p ro = []) ∨ solveP p st = ⟨[], 0, [], 171⟩ ∨ solveP p st = ⟨[], 0, [], 201⟩ := by
  have hmem : (bestC p).found = true → ∃ ro, (bestC p).best = ro ∧ (bestC p).cost = costP p ro p.duties ∧ ro.length = p.duties.length ∧ (∀ w ∈ ro, 0 ≤ w ∧ w < p.workers.length) ∧ badP p ro = [] := fun h => by
    obtain ⟨ro, h1, h2, h3⟩ := best_mem h
    obtain ⟨e, h4, h5, h6⟩ := comp_ext h1
    rw [List.nil_append] at h4
    subst h4
    unfold workB at h2
    exact ⟨_, by rw [h3], by rw [h3], h5, h6, List.isEmpty_iff.1 h2⟩
  rcases solve_cases hv hst (fun d h => (min_bd hv d h).1) (posP_of hv) with ⟨lg, h1, h2, _⟩ | ⟨h1, h2, h3⟩ | ⟨h1, _⟩ | h1
  · obtain ⟨ro, e1, e2, e3, e4, e5⟩ := hmem h2
    rw [e1, e2] at h1
    exact .inl ⟨ro, lg, h1, e3, e4, e5⟩
  · obtain ⟨ro, _, _, e3, e4, e5⟩ := hmem h3
    obtain rfl : ro = [] := List.eq_nil_of_length_eq_zero (by omega)
    exact .inl ⟨[], [], by rw [h1]; simp [costP], e3, e4, e5⟩
  · exact .inr (.inl h1)
  · exact .inr (.inr h1)
set_option maxRecDepth 8000 in
set_option maxHeartbeats 8000000 in
theorem m0Workable_ok (p : Pl) (hz : PlZ p) : FnA Tryz.prog 7 [.agg (pcs p)] (B true) := by
  have c0 := m0Head_ok
  have c1 := m0Small_ok p 4000 (by omega) hz
  cases hf : fineP p 4000 with
  | false =>
    rw [hf] at c1
    refine fn_run (T := tab) Tryz.func7 rfl Tryz.ntmps7 rfl Tryz.results7 (fun _ => ?_)
    repeat' ((conv => whnf) <;> (first | refine zM ?_ | refine zW ?_ | intro _ | exact zF | refine Fin.pure ?_ | refine Br.tt ?_ | refine Br.ff ?_ | (refine Br.mk (fun h => ?_) (fun h => ?_) <;> (try simp only [sh] at h) <;> try first | (exfalso; omega) | exact absurd trivial h | (simp at h; done)) | refine zA ?_ | refine zN ?_ | refine zO ?_ | refine zP ?_ | refine zB ?_ | refine zL ent9 c0 ?_ | refine zG ent9 (fun h => c0) ?_ | refine zL ent12 c1 ?_ | refine zG ent12 (fun h => c1) ?_ | refine lB ?_ | refine lBA ?_ | refine zK ?_ | refine s1 ?_ | refine sA ?_ | refine zC ?_ | fail))
  | true =>
    rw [hf] at c1
    unfold fineP at hf
    simp only [Bool.and_eq_true] at hf
    have hs := small_sm hf.1
    have hv := hf.2.1
    have hsm := smP_iff.1 hf.1
    have hld : (p.duties.map duav).length = p.duties.length := by simp
    have hlw : (p.workers.map wkav).length = p.workers.length := by simp
    have k1 := pSolve_ok p 3000 hs posP_of (by omega)
    rcases solve_good (st := 3000) hv (by omega) with ⟨ro, lg, e1, e2, e3, e4⟩ | e1 | e1
    · rw [e1] at k1
      unfold solav at k1
      simp only at k1
      have hlr : (ro.map I).length = ro.length := by simp
      have hok : okRo p ro = true := by
        unfold okRo
        rw [hv, Bool.true_and]
        exact isRo_iff.2 ⟨e2, fun w hw => by have := e3 w hw; omega⟩
      have c2 := oBad_ok p ro hs
      have c3 := oCost_ok p ro hs
      rw [if_pos hok, if_pos hok, e4] at c2
      rw [if_pos hok, if_pos hok] at c3
      refine fn_run (T := tab) Tryz.func7 rfl Tryz.ntmps7 rfl Tryz.results7 (fun _ => ?_)
      repeat' ((conv => whnf) <;> (first | refine zM ?_ | refine zW ?_ | intro _ | exact zF | refine Br.tt ?_ | refine Br.ff ?_ | (refine Br.mk (fun h => ?_) (fun h => ?_) <;> (try simp only [sh] at h) <;> try first | (exfalso; omega) | exact absurd trivial h | (simp at h; done)) | refine zA ?_ | refine zN ?_ | refine zO ?_ | refine zP ?_ | refine zB ?_ | refine zL ent9 c0 ?_ | refine zG ent9 (fun h => c0) ?_ | refine zL ent12 c1 ?_ | refine zG ent12 (fun h => c1) ?_ | refine zL ent11 k1 ?_ | refine zG ent11 (fun h => k1) ?_ | refine lB ?_ | refine lBA ?_ | refine zK ?_ | refine s1 ?_ | refine sA ?_ | refine zC ?_ | fail))
      (conv => whnf); refine CK.loopK [3, 9, 53, 54, 55, 56, 57, 58, 59, 60, 61, 62, 63, 64, 65, 66, 67, 68, 69, 70, 71, 72, 73, 74, 75, 76] (σ := Nat) (fun i => i ≤ ro.length) (fun i => [(3, B true), (9, I i)]) (fun _ => []) _ (fun i => ro.length - i) 0 (Nat.zero_le _) Qy (List.Sublist.refl _) ?_
      conv => whnf
      rintro i i1
      by_cases hi : i < ro.length
      · have hw := e3 _ (getD_mem hi)
        have hb : (true && decide (0 ≤ ro.getD i default) && decide (ro.getD i default < ((p.workers.map wkav).length : Int))) = true := by rw [hlw, decide_eq_true hw.1, decide_eq_true hw.2]; rfl
        repeat' ((conv => whnf) <;> (first | refine zM ?_ | refine zW ?_ | intro _ | exact zF | refine Br.tt ?_ | refine Br.ff ?_ | (refine Br.mk (fun h => ?_) (fun h => ?_) <;> (try simp only [sh] at h) <;> try first | (exfalso; omega) | exact absurd trivial h | (simp at h; done)) | refine zA ?_ | refine zN ?_ | refine zO ?_ | refine zP ?_ | refine zB ?_ | refine lB ?_ | refine lBA ?_ | refine zK ?_ | refine s1 ?_ | refine sA ?_ | refine zC ?_ | fail))
        rw [hb]
        (conv => whnf); (refine Nxt.of (i + 1) [3, 9, 53, 54, 55, 56, 57, 58, 59, 60, 61, 62, 63, 64, 65, 66, 67, 68, 69, 70, 71, 72, 73, 74, 75, 76] Qr Qr Qr ?_ ?_ Qy Qs <;> (try dsimp only) <;> (try omega))
      · obtain rfl : i = ro.length := by omega
        repeat' ((conv => whnf) <;> (first | refine zM ?_ | refine zW ?_ | intro _ | exact zF | refine Br.tt ?_ | refine Br.ff ?_ | (refine Br.mk (fun h => ?_) (fun h => ?_) <;> (try simp only [sh] at h) <;> try first | (exfalso; omega) | exact absurd trivial h | (simp at h; done)) | refine zA ?_ | refine zN ?_ | refine zO ?_ | refine zP ?_ | refine zB ?_ | refine zL ent20 c2 ?_ | refine zG ent20 (fun h => c2) ?_ | refine zL ent21 c3 ?_ | refine zG ent21 (fun h => c3) ?_ | refine lB ?_ | refine lBA ?_ | refine zK ?_ | refine s1 ?_ | refine sA ?_ | refine zC ?_ | fail))
        conv => whnf
        exact Fin.pure (congrArg B (by simp))
    · rw [e1] at k1
      refine fn_run (T := tab) Tryz.func7 rfl Tryz.ntmps7 rfl Tryz.results7 (fun _ => ?_)
      repeat' ((conv => whnf) <;> (first | refine zM ?_ | refine zW ?_ | intro _ | exact zF | refine Fin.pure ?_ | refine Br.tt ?_ | refine Br.ff ?_ | (refine Br.mk (fun h => ?_) (fun h => ?_) <;> (try simp only [sh] at h) <;> try first | (exfalso; omega) | exact absurd trivial h | (simp at h; done)) | refine zA ?_ | refine zN ?_ | refine zO ?_ | refine zP ?_ | refine zB ?_ | refine zL ent9 c0 ?_ | refine zG ent9 (fun h => c0) ?_ | refine zL ent12 c1 ?_ | refine zG ent12 (fun h => c1) ?_ | refine zL ent11 k1 ?_ | refine zG ent11 (fun h => k1) ?_ | refine lB ?_ | refine lBA ?_ | refine zK ?_ | refine s1 ?_ | refine sA ?_ | refine zC ?_ | fail))
    · rw [e1] at k1
      refine fn_run (T := tab) Tryz.func7 rfl Tryz.ntmps7 rfl Tryz.results7 (fun _ => ?_)
      repeat' ((conv => whnf) <;> (first | refine zM ?_ | refine zW ?_ | intro _ | exact zF | refine Fin.pure ?_ | refine Br.tt ?_ | refine Br.ff ?_ | (refine Br.mk (fun h => ?_) (fun h => ?_) <;> (try simp only [sh] at h) <;> try first | (exfalso; omega) | exact absurd trivial h | (simp at h; done)) | refine zA ?_ | refine zN ?_ | refine zO ?_ | refine zP ?_ | refine zB ?_ | refine zL ent9 c0 ?_ | refine zG ent9 (fun h => c0) ?_ | refine zL ent12 c1 ?_ | refine zG ent12 (fun h => c1) ?_ | refine zL ent11 k1 ?_ | refine zG ent11 (fun h => k1) ?_ | refine lB ?_ | refine lBA ?_ | refine zK ?_ | refine s1 ?_ | refine sA ?_ | refine zC ?_ | fail))
end Go.Proofs.YtecemgicnboaaaaGreat
