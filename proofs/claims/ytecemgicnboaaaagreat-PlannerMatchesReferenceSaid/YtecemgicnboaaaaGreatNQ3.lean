/-
  Law 20: PlannerMatchesReference, the law's function.
  Conditions: those of each theorem.
-/
import Derived.Test.YtecemgicnboaaaaGreatNQ2
namespace Go.Proofs.YtecemgicnboaaaaGreat
open Go.E2 Go.Wage
/-- what an answer of Solve says beside the reference's -/
theorem solve_match {p : Pl} {st : Int} (hv : validP p = true) (hst : 0 ≤ st ∧ st ≤ 100000) : ((solveP p st).code = 0 ∧ (bestC p).found = true ∧ (solveP p st).cost = (bestC p).cost ∧ (solveP p st).ro = (bestC p).best) ∨ ((solveP p st).code = 171 ∧ (bestC p).found = false ∧ (solveP p st).cost = 0 ∧ (solveP p st).ro = []) ∨ ((solveP p st).code = 201 ∧ enoughB p st = false ∧ (solveP p st).cost = 0 ∧ (solveP p st).ro = []) := by
  rcases solve_cases hv hst (fun d h => (min_bd hv d h).1) (posP_of hv) with ⟨lg, h1, h2, _⟩ | ⟨h1, h2, h3⟩ | ⟨h1, h2⟩ | h1
  · rw [h1]
    exact .inl ⟨rfl, h2, rfl, rfl⟩
  · left
    obtain ⟨ro, g1, _, g3⟩ := best_mem h3
    have g4 := all_mem.1 g1
    have g5 : ro = [] := List.eq_nil_of_length_eq_zero (by omega)
    rw [h1, g3, g5]
    exact ⟨rfl, rfl, by simp [costP], rfl⟩
  · rw [h1]
    exact .inr (.inl ⟨rfl, h2, rfl, rfl⟩)
  · right; right
    refine ⟨by rw [h1], Bool.eq_false_iff.2 fun he => ?_, by rw [h1], by rw [h1]⟩
    exact solve_fuel hv hst he (by rw [h1])
theorem solve_no {p : Pl} {st : Int} (h : ¬ (validP p = true ∧ 0 ≤ st ∧ st ≤ 100000)) : solveP p st = ⟨[], 0, [], 1⟩ := by
  unfold solveP
  rw [if_pos]
  cases hv : validP p with
  | false => exact .inl rfl
  | true =>
    right
    simp only [hv, true_and] at h
    omega
set_option maxRecDepth 8000 in
set_option maxHeartbeats 8000000 in
theorem m0Matches_all (p : Pl) (fu : Int) (hz : PlZ p) (hfu : -9223372036854775808 ≤ fu ∧ fu ≤ 9223372036854775807) : FnA Tryz.prog 3 [.agg (pcs p), I fu] (B true) := by
  have c0 := m0Head_ok
  have c1 := m0Small_ok p 250 (by omega) hz
  have z1 := hz.ch
  have z2 := hz.du
  have z3 := hz.wk
  have hlz : (p.zone.chs.map chav).length = p.zone.chs.length := by simp
  have hld : (p.duties.map duav).length = p.duties.length := by simp
  have hlw : (p.workers.map wkav).length = p.workers.length := by simp
  refine fn_run (T := tab) Tryz.func3 rfl Tryz.ntmps3 rfl Tryz.results3 (fun _ => ?_)
  repeat' ((conv => whnf) <;> (first | refine zM ?_ | refine zW ?_ | intro _ | exact zF | refine Br.tt ?_ | refine Br.ff ?_ | (refine Br.mk (fun h => ?_) (fun h => ?_) <;> (try simp only [sh] at h) <;> try first | (exfalso; omega) | exact absurd trivial h | (simp at h; done)) | refine zA ?_ | refine zN ?_ | refine zO ?_ | refine zP ?_ | refine zB ?_ | refine zL ent9 c0 ?_ | refine zG ent9 (fun h => c0) ?_ | refine lB ?_ | refine lBA ?_ | refine zK ?_ | refine s1 ?_ | refine sA ?_ | refine zC ?_ | fail))
  (conv => whnf); refine CK.loop [4, 6, 42, 43, 44, 45, 46, 47, 48, 49, 50, 51, 52, 53, 54, 55, 56, 57] (σ := Nat) (fun k => k ≤ p.workers.length ∧ ∀ w ∈ p.workers.take k, w.away.length ≤ 410) (fun k => [(6, I k)]) (fun _ => _) (fun k => p.workers.length - k) 0 ⟨Nat.zero_le _, by simp⟩ Qy (List.Sublist.refl _) ?_
  conv => whnf
  rintro k ⟨i1, i2⟩
  by_cases hk : k < p.workers.length
  · have hak := hz.aw _ (getD_mem hk)
    have hla : ((p.workers.getD k default).away.map spav).length = (p.workers.getD k default).away.length := by simp
    repeat' ((conv => whnf) <;> (first | refine zM ?_ | refine zW ?_ | intro _ | exact zF | refine Br.tt ?_ | refine Br.ff ?_ | (refine Br.mk (fun h => ?_) (fun h => ?_) <;> (try simp only [sh] at h) <;> try first | (exfalso; omega) | exact absurd trivial h | (simp at h; done)) | refine zA ?_ | refine zN ?_ | refine zO ?_ | refine zP ?_ | refine zB ?_ | refine lB ?_ | refine lBA ?_ | refine zK ?_ | refine s1 ?_ | refine sA ?_ | refine zC ?_ | fail))
    · (conv => whnf); (refine Nxt.of (k + 1) [4, 6, 42, 43, 44, 45, 46, 47, 48, 49, 50, 51, 52, 53, 54, 55, 56, 57] Qr Qr Qr ?_ ?_ Qy Qs <;> (try dsimp only) <;> (try omega))
      refine ⟨hk, fun w hw => ?_⟩
      rw [take_snocP hk, List.mem_append, List.mem_singleton] at hw
      rcases hw with hw | rfl
      · exact i2 w hw
      · omega
  rw [List.take_of_length_le (by omega)] at i2
  have hs : Small p := ⟨by omega, by omega, by omega, fun w hw => by have := i2 w hw; omega⟩
  have c2 := v8Valid_ok p hs
  by_cases hgo : validP p = true ∧ 0 ≤ fu ∧ fu ≤ 100000
  · obtain ⟨hv, f1, f2⟩ := hgo
    rw [hv] at c2
    cases hf : fineP p 250 with
    | false =>
      rw [hf] at c1
      repeat' ((conv => whnf) <;> (first | refine zM ?_ | refine zW ?_ | intro _ | exact zF | refine Br.tt ?_ | refine Br.ff ?_ | (refine Br.mk (fun h => ?_) (fun h => ?_) <;> (try simp only [sh] at h) <;> try first | (exfalso; omega) | exact absurd trivial h | (simp at h; done)) | refine zA ?_ | refine zN ?_ | refine zO ?_ | refine zP ?_ | refine zB ?_ | refine zL ent10 c2 ?_ | refine zG ent10 (fun h => c2) ?_ | refine zL ent12 c1 ?_ | refine zG ent12 (fun h => c1) ?_ | refine lB ?_ | refine lBA ?_ | refine zK ?_ | refine s1 ?_ | refine sA ?_ | refine zC ?_ | fail))
    | true =>
      rw [hf] at c1
      unfold fineP at hf
      simp only [Bool.and_eq_true, decide_eq_true_eq] at hf
      have hc : cntP p 5000 = ((p.workers.length ^ p.duties.length : Nat) : Int) := by
        have := hf.2.2
        unfold cntP at this ⊢
        omega
      have c3 := c0Best_ok p hs
      rw [best_N hv hc] at c3
      have c4 := m0Pick_ok fu 500 (by omega) hfu
      have b4 := pick_bd (c := fu) (n := 500) (by omega)
      generalize pickP fu 500 = f3 at *
      have hsol := fun st => solve_match (p := p) (st := st) hv
      have hbl : (bestC p).best.length ≤ 100000 := by
        cases hb : (bestC p).found with
        | true =>
          obtain ⟨ro, g1, _, g3⟩ := best_mem hb
          rw [g3]
          have := (all_mem.1 g1).1
          have := hs.du
          dsimp only
          omega
        | false =>
          rcases fold_mem (p := p) (allR p) ⟨false, [], 0⟩ with h1 | ⟨ro, _, _, h1⟩
          · unfold bestC; rw [h1]; simp
          · unfold bestC at hb; rw [h1] at hb; cases hb
      repeat' ((conv => whnf) <;> (first | refine zM ?_ | refine zW ?_ | intro _ | exact zF | refine Br.tt ?_ | refine Br.ff ?_ | (refine Br.mk (fun h => ?_) (fun h => ?_) <;> (try simp only [sh] at h) <;> try first | (exfalso; omega) | exact absurd trivial h | (simp at h; done)) | refine zA ?_ | refine zN ?_ | refine zO ?_ | refine zP ?_ | refine zB ?_ | refine zL ent10 c2 ?_ | refine zG ent10 (fun h => c2) ?_ | refine zL ent12 c1 ?_ | refine zG ent12 (fun h => c1) ?_ | refine zL ent13 c3 ?_ | refine zG ent13 (fun h => c3) ?_ | refine zL ent14 c4 ?_ | refine zG ent14 (fun h => c4) ?_ | refine lB ?_ | refine lBA ?_ | refine zK ?_ | refine s1 ?_ | refine sA ?_ | refine LK.gr (Gr.bslV rfl rfl rfl rfl) ?_ | refine Ask.of (Gr.bslV rfl rfl rfl rfl) ?_ | refine zC ?_ | refine zD ?_ | fail))
      rw [show (AV.sl 1 [I fu, I f3, AV.v (.int .i64 20000)]) = .sl 1 ([fu, f3, 20000].map I) from rfl]
      have hvs : ∀ x ∈ [fu, f3, 20000], 0 ≤ x ∧ x ≤ 100000 := fun x hx => by
        simp only [List.mem_cons, List.not_mem_nil, or_false] at hx
        omega
      have hv3 : ([fu, f3, 20000]).length = 3 := rfl
      generalize [fu, f3, 20000] = vs at *
      have hlv : (vs.map I).length = 3 := by rw [List.length_map, hv3]
      repeat' ((conv => whnf) <;> (first | refine zM ?_ | refine zW ?_ | intro _ | exact zF | refine Br.tt ?_ | refine Br.ff ?_ | (refine Br.mk (fun h => ?_) (fun h => ?_) <;> (try simp only [sh] at h) <;> try first | (exfalso; omega) | exact absurd trivial h | (simp at h; done)) | refine zA ?_ | refine zN ?_ | refine zO ?_ | refine zP ?_ | refine zB ?_ | refine lB ?_ | refine lBA ?_ | refine zK ?_ | refine s1 ?_ | refine sA ?_ | refine LK.gr (Gr.bslV rfl rfl rfl rfl) ?_ | refine Ask.of (Gr.bslV rfl rfl rfl rfl) ?_ | refine zC ?_ | refine zD ?_ | fail))
      (conv => whnf); refine CK.loopK [4, 5, 17, 18, 19, 20, 21, 22, 113, 114, 115, 116, 117, 118, 119, 120, 121, 122, 123, 124, 125, 126, 127, 128, 129, 130, 131, 132, 133, 134, 135, 136, 137, 138, 139, 140, 141, 142, 143, 144, 145, 146, 147, 148, 149, 150, 151, 152, 153, 154, 155, 156, 157, 158, 159, 160, 161, 162, 163, 164, 165, 166, 167, 168, 169, 170, 171, 172, 173, 174, 175, 176, 177] (σ := Nat × Bool) (fun s => s.1 ≤ 3 ∧ s.2 = true) (fun ⟨j, b⟩ => [(113, I j), (5, B b)]) (fun _ => []) _ (fun s => 3 - s.1) (0, true) ⟨Nat.zero_le _, rfl⟩ Qy (List.Sublist.refl _) ?_
      conv => whnf
      rintro ⟨j, b⟩ ⟨j1, j2⟩
      simp only at j1 j2
      subst j2
      dsimp only
      by_cases hj : j < 3
      · have hb := hvs _ (getD_mem (k := j) (by omega))
        have c5 := pSolve_ok p (vs.getD j default) hs posP_of (by omega)
        have c6 := c0Enough_ok p (vs.getD j default) hs hv
        have hso := hsol _ hb
        generalize solveP p (vs.getD j default) = r at *
        unfold solav at c5
        rcases hso with ⟨e1, e2, e3, e4⟩ | ⟨e1, e2, e3, e4⟩ | ⟨e1, e2, e3, e4⟩
        · rw [e1] at c5
          have c7 := c0Same_ok r.ro (bestC p).best (by rw [e4]; exact hbl)
          repeat' ((conv => whnf) <;> (first | refine zM ?_ | refine zW ?_ | intro _ | exact zF | refine Br.tt ?_ | refine Br.ff ?_ | (refine Br.mk (fun h => ?_) (fun h => ?_) <;> (try simp only [sh] at h) <;> try first | (exfalso; omega) | exact absurd trivial h | (simp at h; done)) | refine zA ?_ | refine zN ?_ | refine zO ?_ | refine zP ?_ | refine zB ?_ | refine zL ent11 c5 ?_ | refine zG ent11 (fun h => c5) ?_ | refine zL ent15 c6 ?_ | refine zG ent15 (fun h => c6) ?_ | refine zL ent16 c7 ?_ | refine zG ent16 (fun h => c7) ?_ | refine lB ?_ | refine lBA ?_ | refine zK ?_ | refine s1 ?_ | refine sA ?_ | refine LK.gr (Gr.bslV rfl rfl rfl rfl) ?_ | refine Ask.of (Gr.bslV rfl rfl rfl rfl) ?_ | refine zC ?_ | refine zD ?_ | fail))
          (conv => whnf); (refine Nxt.of ((j + 1, _)) [4, 5, 17, 18, 19, 20, 21, 22, 113, 114, 115, 116, 117, 118, 119, 120, 121, 122, 123, 124, 125, 126, 127, 128, 129, 130, 131, 132, 133, 134, 135, 136, 137, 138, 139, 140, 141, 142, 143, 144, 145, 146, 147, 148, 149, 150, 151, 152, 153, 154, 155, 156, 157, 158, 159, 160, 161, 162, 163, 164, 165, 166, 167, 168, 169, 170, 171, 172, 173, 174, 175, 176, 177] Qr Qr Qr ?_ ?_ Qy Qs <;> (try dsimp only) <;> (try omega))
          exact ⟨by omega, by simp [e2, e3, e4]⟩
        · rw [e1] at c5
          repeat' ((conv => whnf) <;> (first | refine zM ?_ | refine zW ?_ | intro _ | exact zF | refine Br.tt ?_ | refine Br.ff ?_ | (refine Br.mk (fun h => ?_) (fun h => ?_) <;> (try simp only [sh] at h) <;> try first | (exfalso; omega) | exact absurd trivial h | (simp at h; done)) | refine zA ?_ | refine zN ?_ | refine zO ?_ | refine zP ?_ | refine zB ?_ | refine zL ent11 c5 ?_ | refine zG ent11 (fun h => c5) ?_ | refine zL ent15 c6 ?_ | refine zG ent15 (fun h => c6) ?_ | refine lB ?_ | refine lBA ?_ | refine zK ?_ | refine s1 ?_ | refine sA ?_ | refine LK.gr (Gr.bslV rfl rfl rfl rfl) ?_ | refine Ask.of (Gr.bslV rfl rfl rfl rfl) ?_ | refine zC ?_ | refine zD ?_ | fail))
          (conv => whnf); (refine Nxt.of ((j + 1, _)) [4, 5, 17, 18, 19, 20, 21, 22, 113, 114, 115, 116, 117, 118, 119, 120, 121, 122, 123, 124, 125, 126, 127, 128, 129, 130, 131, 132, 133, 134, 135, 136, 137, 138, 139, 140, 141, 142, 143, 144, 145, 146, 147, 148, 149, 150, 151, 152, 153, 154, 155, 156, 157, 158, 159, 160, 161, 162, 163, 164, 165, 166, 167, 168, 169, 170, 171, 172, 173, 174, 175, 176, 177] Qr Qr Qr ?_ ?_ Qy Qs <;> (try dsimp only) <;> (try omega))
          exact ⟨by omega, by simp [e2, e3, e4]⟩
        · rw [e1] at c5
          rw [e2] at c6
          repeat' ((conv => whnf) <;> (first | refine zM ?_ | refine zW ?_ | intro _ | exact zF | refine Br.tt ?_ | refine Br.ff ?_ | (refine Br.mk (fun h => ?_) (fun h => ?_) <;> (try simp only [sh] at h) <;> try first | (exfalso; omega) | exact absurd trivial h | (simp at h; done)) | refine zA ?_ | refine zN ?_ | refine zO ?_ | refine zP ?_ | refine zB ?_ | refine zL ent11 c5 ?_ | refine zG ent11 (fun h => c5) ?_ | refine zL ent15 c6 ?_ | refine zG ent15 (fun h => c6) ?_ | refine lB ?_ | refine lBA ?_ | refine zK ?_ | refine s1 ?_ | refine sA ?_ | refine LK.gr (Gr.bslV rfl rfl rfl rfl) ?_ | refine Ask.of (Gr.bslV rfl rfl rfl rfl) ?_ | refine zC ?_ | refine zD ?_ | fail))
          (conv => whnf); (refine Nxt.of ((j + 1, _)) [4, 5, 17, 18, 19, 20, 21, 22, 113, 114, 115, 116, 117, 118, 119, 120, 121, 122, 123, 124, 125, 126, 127, 128, 129, 130, 131, 132, 133, 134, 135, 136, 137, 138, 139, 140, 141, 142, 143, 144, 145, 146, 147, 148, 149, 150, 151, 152, 153, 154, 155, 156, 157, 158, 159, 160, 161, 162, 163, 164, 165, 166, 167, 168, 169, 170, 171, 172, 173, 174, 175, 176, 177] Qr Qr Qr ?_ ?_ Qy Qs <;> (try dsimp only) <;> (try omega))
          exact ⟨by omega, by simp [e3, e4]⟩
      · repeat' ((conv => whnf) <;> (first | refine zM ?_ | refine zW ?_ | intro _ | exact zF | refine Br.tt ?_ | refine Br.ff ?_ | (refine Br.mk (fun h => ?_) (fun h => ?_) <;> (try simp only [sh] at h) <;> try first | (exfalso; omega) | exact absurd trivial h | (simp at h; done)) | refine zA ?_ | refine zN ?_ | refine zO ?_ | refine zP ?_ | refine zB ?_ | refine lB ?_ | refine lBA ?_ | refine zK ?_ | refine s1 ?_ | refine sA ?_ | refine LK.gr (Gr.bslV rfl rfl rfl rfl) ?_ | refine Ask.of (Gr.bslV rfl rfl rfl rfl) ?_ | refine zC ?_ | refine zD ?_ | fail))
  · have c5 := pSolve_ok p fu hs posP_of hfu
    rw [solve_no hgo] at c5
    repeat' ((conv => whnf) <;> (first | refine zM ?_ | refine zW ?_ | intro _ | exact zF | refine Br.tt ?_ | refine Br.ff ?_ | (refine Br.mk (fun h => ?_) (fun h => ?_) <;> (try simp only [sh] at h) <;> try first | (exfalso; omega) | exact absurd trivial h | (simp at h; done)) | refine zA ?_ | refine zN ?_ | refine zO ?_ | refine zP ?_ | refine zB ?_ | refine zL ent10 c2 ?_ | refine zG ent10 (fun h => c2) ?_ | refine zL ent11 c5 ?_ | refine zG ent11 (fun h => c5) ?_ | refine lB ?_ | refine lBA ?_ | refine zK ?_ | refine s1 ?_ | refine sA ?_ | refine zC ?_ | fail))
    rename_i h
    exact absurd ⟨h.1.1, h.1.2, h.2⟩ hgo
end Go.Proofs.YtecemgicnboaaaaGreat
