/-
  Law 20: PlannerLeast.
  Conditions: those of each theorem.
-/
import Derived.Test.YtecemgicnboaaaaGreatNL2
import Derived.Test.YtecemgicnboaaaaGreatRO9
namespace Go.Proofs.YtecemgicnboaaaaGreat
open Go.E2 Go.Wage
def leastOk (p : Pl) (ro : List Int) (c e : Int) : Prop := ∀ m ∈ allR p, badP p m = [] → e = 0 ∧ c ≤ costP p m p.duties ∧ (c = costP p m p.duties → lessL m ro = false)
theorem solve_least {p : Pl} {st : Int} (hv : validP p = true) (hst : 0 ≤ st ∧ st ≤ 100000) : (solveP p st).code = 201 ∨ ((solveP p st).code ≠ 201 ∧ leastOk p (solveP p st).ro (solveP p st).cost (solveP p st).code) := by
  have hw : ∀ m, badP p m = [] → workB p m = true := fun m h => by unfold workB; rw [h]; rfl
  rcases solve_cases hv hst (fun d h => (min_bd hv d h).1) (posP_of hv) with ⟨lg, h1, h2, _⟩ | ⟨h1, h2, h3⟩ | ⟨h1, h2⟩ | h1
  · rw [h1]
    exact .inr ⟨by simp, fun m hm hb => ⟨rfl, (best_first hm (hw m hb)).2.1, (best_first hm (hw m hb)).2.2⟩⟩
  · rw [h1]
    refine .inr ⟨by simp, fun m hm hb => ?_⟩
    obtain ⟨e, h5, h4, _⟩ := comp_ext hm
    have h6 : e = [] := List.eq_nil_of_length_eq_zero (by omega)
    rw [h6] at h5
    rw [h5]
    exact ⟨rfl, by simp [costP], fun _ => rfl⟩
  · rw [h1]
    refine .inr ⟨by simp, fun m hm hb => ?_⟩
    have := (best_first hm (hw m hb)).1
    rw [h2] at this
    cases this
  · rw [h1]
    exact .inl rfl
set_option maxRecDepth 8000 in
set_option maxHeartbeats 8000000 in
theorem m0Least_ok (p : Pl) (ns : List Int) (hz : PlZ p) (hn : ns.length ≤ 9223372036854775807 ∧ ∀ x ∈ ns, -9223372036854775808 ≤ x ∧ x ≤ 9223372036854775807) : FnA Tryz.prog 8 [.agg (pcs p), .sl 1 (ns.map I)] (B true) := by
  have c0 := m0Head_ok
  have c1 := m0Small_ok p 4000 (by omega) hz
  have z3 := hz.wk
  have hlw : (p.workers.map wkav).length = p.workers.length := by simp
  have hln : (ns.map I).length = ns.length := by simp
  by_cases hf : fineP p 4000 = true ∧ p.workers.length ≠ 0
  · rw [hf.1] at c1
    have hw0 := hf.2
    have hf := hf.1
    unfold fineP at hf
    simp only [Bool.and_eq_true] at hf
    have hs := small_sm hf.1
    have hv := hf.2.1
    have hsd := hs.du
    have k1 := pSolve_ok p 3000 hs posP_of (by omega)
    have hsl := solve_least (p := p) (st := 3000) hv (by omega)
    generalize hr : solveP p 3000 = r at *
    unfold solav at k1
    refine fn_run (T := tab) Tryz.func8 rfl Tryz.ntmps8 rfl Tryz.results8 (fun _ => ?_)
    repeat' ((conv => whnf) <;> (first | refine zM ?_ | refine zW ?_ | intro _ | exact zF | refine Br.tt ?_ | refine Br.ff ?_ | (refine Br.mk (fun h => ?_) (fun h => ?_) <;> (try simp only [sh] at h) <;> try first | (exfalso; omega) | exact absurd trivial h | (simp at h; done)) | refine zA ?_ | refine zN ?_ | refine zO ?_ | refine zP ?_ | refine zB ?_ | refine zL ent9 c0 ?_ | refine zG ent9 (fun h => c0) ?_ | refine zL ent12 c1 ?_ | refine zG ent12 (fun h => c1) ?_ | refine zL ent11 k1 ?_ | refine zG ent11 (fun h => k1) ?_ | refine lB ?_ | refine lBA ?_ | refine zK ?_ | refine s1 ?_ | refine sA ?_ | refine zC ?_ | fail))
    rename_i h1 h2
    have hlo := (hsl.resolve_left (by assumption)).2
    have hpw : 0 < p.workers.length ^ p.duties.length := Nat.pow_pos (by omega)
    have hcn : 1 ≤ cntP p 4000 ∧ cntP p 4000 ≤ 4001 := by unfold cntP; omega
    have c2 := c0Count_ok p 4000 hs (by omega)
    (conv => whnf); refine CK.loopK [4, 5, 11, 12, 13, 14, 15, 16, 39, 40, 41, 42, 43, 44, 45, 46, 47, 48, 49, 50, 51, 52, 53, 54, 55, 56, 57, 58, 59, 60, 61, 62, 63, 64, 65, 66, 67, 68, 69, 70, 71, 72, 73, 74, 75, 76, 77, 78, 79, 80, 81, 82, 83, 84, 85, 86, 87, 88, 89, 90, 91, 92, 93, 94, 95, 96, 97, 98, 99] (σ := Nat) (fun i => i ≤ ns.length) (fun i => [(5, B true), (11, I i)]) (fun _ => []) _ (fun i => ns.length - i) 0 (Nat.zero_le _) Qy (List.Sublist.refl _) ?_
    conv => whnf
    rintro i i1
    by_cases hi : i < ns.length ∧ i < 12
    · have hx := hn.2 _ (getD_mem hi.1)
      have hpk := pick_bd (c := ns.getD i default) hcn.1
      have c3 := m0Pick_ok (ns.getD i default) (cntP p 4000) hcn.1 hx
      obtain ⟨k, hk⟩ := Int.eq_ofNat_of_zero_le hpk.1
      rw [hk] at c3 hpk
      have c4 := c0Num_ok p k hs (by omega) (fun _ => by omega)
      have hmem := numP_mem (p := p) (by omega) k
      obtain ⟨e, he, e2, e3⟩ := comp_ext hmem
      rw [List.nil_append] at he
      have hok : okRo p (numP p k) = true := by
        unfold okRo
        rw [hv, Bool.true_and]
        exact isRo_iff.2 ⟨by rw [he, e2], fun w hw => by rw [he] at hw; have := e3 w hw; omega⟩
      have c5 := oBad_ok p (numP p k) hs
      have c6 := oCost_ok p (numP p k) hs
      have c7 := c0Less_ok (numP p k) r.ro (by rw [he, e2]; omega)
      rw [if_pos hok, if_pos hok] at c5 c6
      have hl := hlo _ hmem
      repeat' ((conv => whnf) <;> (first | refine zM ?_ | refine zW ?_ | intro _ | exact zF | refine Br.tt ?_ | refine Br.ff ?_ | (refine Br.mk (fun h => ?_) (fun h => ?_) <;> (try simp only [sh] at h) <;> try first | (exfalso; omega) | exact absurd trivial h | (simp at h; done)) | refine zA ?_ | refine zN ?_ | refine zO ?_ | refine zP ?_ | refine zB ?_ | refine zL ent23 c2 ?_ | refine zG ent23 (fun h => c2) ?_ | refine zL ent14 c3 ?_ | refine zG ent14 (fun h => c3) ?_ | refine zL ent22 c4 ?_ | refine zG ent22 (fun h => c4) ?_ | refine zL ent20 c5 ?_ | refine zG ent20 (fun h => c5) ?_ | refine zL ent21 c6 ?_ | refine zG ent21 (fun h => c6) ?_ | refine zL ent24 c7 ?_ | refine zG ent24 (fun h => c7) ?_ | refine lB ?_ | refine lBA ?_ | refine zK ?_ | refine s1 ?_ | refine sA ?_ | refine zC ?_ | fail))
      · (conv => whnf); (refine Nxt.of (i + 1) [4, 5, 11, 12, 13, 14, 15, 16, 39, 40, 41, 42, 43, 44, 45, 46, 47, 48, 49, 50, 51, 52, 53, 54, 55, 56, 57, 58, 59, 60, 61, 62, 63, 64, 65, 66, 67, 68, 69, 70, 71, 72, 73, 74, 75, 76, 77, 78, 79, 80, 81, 82, 83, 84, 85, 86, 87, 88, 89, 90, 91, 92, 93, 94, 95, 96, 97, 98, 99] Qr Qr Qr ?_ ?_ Qy Qs <;> (try dsimp only) <;> (try omega))
      · have hb0 : badP p (numP p k) = [] := List.eq_nil_of_length_eq_zero (by omega)
        have hl := hl hb0
        have hb : (true && decide (r.code = 0) && decide (r.cost ≤ costP p (numP p k) p.duties) && (decide (r.cost < costP p (numP p k) p.duties) || !lessL (numP p k) r.ro)) = true := by
          rw [decide_eq_true hl.1, decide_eq_true hl.2.1]
          by_cases hc : r.cost < costP p (numP p k) p.duties
          · rw [decide_eq_true hc]; rfl
          · rw [hl.2.2 (by omega)]; simp
        rw [hb]
        (conv => whnf); (refine Nxt.of (i + 1) [4, 5, 11, 12, 13, 14, 15, 16, 39, 40, 41, 42, 43, 44, 45, 46, 47, 48, 49, 50, 51, 52, 53, 54, 55, 56, 57, 58, 59, 60, 61, 62, 63, 64, 65, 66, 67, 68, 69, 70, 71, 72, 73, 74, 75, 76, 77, 78, 79, 80, 81, 82, 83, 84, 85, 86, 87, 88, 89, 90, 91, 92, 93, 94, 95, 96, 97, 98, 99] Qr Qr Qr ?_ ?_ Qy Qs <;> (try dsimp only) <;> (try omega))
    · repeat' ((conv => whnf) <;> (first | refine zM ?_ | refine zW ?_ | intro _ | exact zF | refine Fin.pure ?_ | refine Br.tt ?_ | refine Br.ff ?_ | (refine Br.mk (fun h => ?_) (fun h => ?_) <;> (try simp only [sh] at h) <;> try first | (exfalso; omega) | exact absurd trivial h | (simp at h; done)) | refine zA ?_ | refine zN ?_ | refine zO ?_ | refine zP ?_ | refine zB ?_ | refine lB ?_ | refine lBA ?_ | refine zK ?_ | refine s1 ?_ | refine sA ?_ | refine zC ?_ | fail))
  · cases hf1 : fineP p 4000 with
    | false =>
      rw [hf1] at c1
      refine fn_run (T := tab) Tryz.func8 rfl Tryz.ntmps8 rfl Tryz.results8 (fun _ => ?_)
      repeat' ((conv => whnf) <;> (first | refine zM ?_ | refine zW ?_ | intro _ | exact zF | refine Fin.pure ?_ | refine Br.tt ?_ | refine Br.ff ?_ | (refine Br.mk (fun h => ?_) (fun h => ?_) <;> (try simp only [sh] at h) <;> try first | (exfalso; omega) | exact absurd trivial h | (simp at h; done)) | refine zA ?_ | refine zN ?_ | refine zO ?_ | refine zP ?_ | refine zB ?_ | refine zL ent9 c0 ?_ | refine zG ent9 (fun h => c0) ?_ | refine zL ent12 c1 ?_ | refine zG ent12 (fun h => c1) ?_ | refine lB ?_ | refine lBA ?_ | refine zK ?_ | refine s1 ?_ | refine sA ?_ | refine zC ?_ | fail))
    | true =>
      rw [hf1] at c1
      have h0 : p.workers.length = 0 := Classical.byContradiction fun h => hf ⟨hf1, h⟩
      refine fn_run (T := tab) Tryz.func8 rfl Tryz.ntmps8 rfl Tryz.results8 (fun _ => ?_)
      repeat' ((conv => whnf) <;> (first | refine zM ?_ | refine zW ?_ | intro _ | exact zF | refine Fin.pure ?_ | refine Br.tt ?_ | refine Br.ff ?_ | (refine Br.mk (fun h => ?_) (fun h => ?_) <;> (try simp only [sh] at h) <;> try first | (exfalso; omega) | exact absurd trivial h | (simp at h; done)) | refine zA ?_ | refine zN ?_ | refine zO ?_ | refine zP ?_ | refine zB ?_ | refine zL ent9 c0 ?_ | refine zG ent9 (fun h => c0) ?_ | refine zL ent12 c1 ?_ | refine zG ent12 (fun h => c1) ?_ | refine lB ?_ | refine lBA ?_ | refine zK ?_ | refine s1 ?_ | refine sA ?_ | refine zC ?_ | fail))
end Go.Proofs.YtecemgicnboaaaaGreat
