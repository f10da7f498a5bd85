/-
  Law 20: PlannerRelaxed.
  Conditions: those of each theorem.
-/
import Derived.Test.YtecemgicnboaaaaGreatNB5
import Derived.Test.YtecemgicnboaaaaGreatGE
namespace Go.Proofs.YtecemgicnboaaaaGreat
open Go.E2 Go.Wage
def betB (r : Sol) (c : Int) : Bool := decide (r.code = 201) || (decide (r.code = 0) && decide (r.cost ≤ c))
theorem m0Better_ok (q : Pl) (c : Int) (hs : Small q) : FnA Tryz.prog 19 [.agg (pcs q), I c] (B (betB (solveP q 3000) c)) := by
  have q1 := pSolve_ok q 3000 hs posP_of (by omega)
  generalize solveP q 3000 = r at *
  unfold solav at q1
  refine fn_run (T := tab) Tryz.func19 rfl Tryz.ntmps19 rfl Tryz.results19 (fun _ => ?_)
  repeat' ((conv => whnf) <;> (first | refine zM ?_ | refine zW ?_ | intro _ | exact zF | refine Br.tt ?_ | refine Br.ff ?_ | (refine Br.mk (fun h => ?_) (fun h => ?_) <;> (try simp only [sh] at h) <;> try first | (exfalso; omega) | exact absurd trivial h | (simp at h; done)) | refine zA ?_ | refine zN ?_ | refine zO ?_ | refine zP ?_ | refine zB ?_ | refine zL ent11 q1 ?_ | refine zG ent11 (fun h => q1) ?_ | refine lB ?_ | refine lBA ?_ | refine zK ?_ | refine s1 ?_ | refine sA ?_ | refine zC ?_ | fail))
  all_goals (conv => whnf)
  all_goals (refine Fin.pure (congrArg B ?_))
  all_goals (unfold betB)
  all_goals grind
theorem best_nil {p : Pl} (hn : p.duties.length = 0) (hf : (bestC p).found = true) : (bestC p).cost = 0 := by
  obtain ⟨ro, h1, _, h3⟩ := best_mem hf
  have := all_mem.1 h1
  rw [h3, List.eq_nil_of_length_eq_zero (by omega : ro.length = 0)]
  simp [costP]
theorem solve_better {p q : Pl} (hv : validP p = true) (h : (bestC p).found = true → (bestC q).found = true ∧ (bestC q).cost ≤ (bestC p).cost) (he : (solveP p 3000).code = 0) (hvq : validP q = true) : betB (solveP q 3000) (solveP p 3000).cost = true := by
  have hp : (bestC p).found = true ∧ (solveP p 3000).cost = (bestC p).cost := by
    rcases solve_cases (st := 3000) hv (by omega) (fun d h => (min_bd hv d h).1) (posP_of hv) with ⟨lg, h1, h2, _⟩ | ⟨h1, h2, h3⟩ | ⟨h1, _⟩ | h1
    · rw [h1]; exact ⟨h2, rfl⟩
    · rw [h1]; exact ⟨h3, (best_nil h2 h3).symm⟩
    · rw [h1] at he; cases he
    · rw [h1] at he; cases he
  obtain ⟨h4, h5⟩ := h hp.1
  rw [hp.2]
  unfold betB
  rcases solve_cases (st := 3000) hvq (by omega) (fun d h => (min_bd hvq d h).1) (posP_of hvq) with ⟨lg, h1, h2, _⟩ | ⟨h1, h2, h3⟩ | ⟨h1, h2⟩ | h1
  · rw [h1]
    simp [h5]
  · rw [h1]
    have := best_nil h2 h3
    simp
    omega
  · rw [h4] at h2; cases h2
  · rw [h1]; rfl
theorem fin_bet {v b : Bool} (h : v = true → b = true) : (true && (!v || b)) = true := by
  cases v with
  | false => rfl
  | true => rw [h rfl]; rfl
set_option maxRecDepth 8000 in
set_option maxHeartbeats 8000000 in
theorem m0Relaxed_all (p : Pl) (x y : Int) (wk : Wk) (hz : PlZ p) (hx : -9223372036854775808 ≤ x ∧ x ≤ 9223372036854775807) (hy : -9223372036854775808 ≤ y ∧ y ≤ 9223372036854775807) (hw : wk.away.length ≤ 9223372036854775807) : FnA Tryz.prog 5 [.agg (pcs p), I x, I y, wkav wk] (B true) := by
  have c0 := m0Head_ok
  have c1 := m0Small_ok p 1000 (by omega) hz
  have z3 := hz.wk
  have hld : (p.duties.map duav).length = p.duties.length := by simp
  have hlw : (p.workers.map wkav).length = p.workers.length := by simp
  have hla : (wk.away.map spav).length = wk.away.length := by simp
  by_cases hgo : fineP p 1000 = true ∧ p.workers.length ≤ 4 ∧ wk.away.length ≤ 20
  · obtain ⟨hf, hw4, ha⟩ := hgo
    rw [hf] at c1
    unfold fineP at hf
    simp only [Bool.and_eq_true] at hf
    have hs := small_sm hf.1
    have hsm := smP_iff.1 hf.1
    have hv := hf.2.1
    have q1 := pSolve_ok p 3000 hs posP_of (by omega)
    have hbt := fun q => solve_better (p := p) (q := q) hv
    generalize solveP p 3000 = r1 at *
    unfold solav at q1
    have hVl := (validP_iff.1 hv).2.2.2.2
    have hlim := hVl.2
    unfold limOk inB at hlim
    simp only [Bool.and_eq_true, decide_eq_true_eq] at hlim
    have c2 := m0Pick_ok x 6 (by omega) hx
    have b2 := pick_bd (c := x) (n := 6) (by omega)
    generalize pickP x 6 = kd at *
    refine fn_run (T := tab) Tryz.func5 rfl Tryz.ntmps5 rfl Tryz.results5 (fun _ => ?_)
    repeat' ((conv => whnf) <;> (first | (refine Kx.eff rfl (Eff.mkC (T := tab) (N := 10) rfl rfl rfl rfl (by omega)) (by rintro _ _ ⟨A, k, cp, rfl, rfl⟩; exact Qs) ?_ <;> rintro _ _ ⟨A, k, cp, rfl, rfl⟩) | refine CK.anyK [1, 2] [0, 3, 4, 5] _ (List.Sublist.cons _ (List.Sublist.cons _ (List.Sublist.refl _))) Qk ?_ | refine zM ?_ | refine zW ?_ | intro _ | exact zF | refine Br.tt ?_ | refine Br.ff ?_ | (refine Br.mk (fun h => ?_) (fun h => ?_) <;> (try simp only [sh] at h) <;> try first | (exfalso; omega) | exact absurd trivial h | (simp at h; done)) | refine zA ?_ | refine zN ?_ | refine zO ?_ | refine zP ?_ | refine zB ?_ | refine zL ent9 c0 ?_ | refine zG ent9 (fun h => c0) ?_ | refine zL ent12 c1 ?_ | refine zG ent12 (fun h => c1) ?_ | refine zL ent11 q1 ?_ | refine zG ent11 (fun h => q1) ?_ | refine lB ?_ | refine lBA ?_ | refine nR ?_ | refine iR ?_ | refine lR ?_ | refine lR0 ?_ | refine lRA ?_ | refine zK ?_ | refine s1 ?_ | refine sA ?_ | refine pS ?_ | refine LK.bsl rfl rfl rfl rfl ?_ | (refine LK.frzR 0 rfl ?_ <;> refine pF ?_) | refine pA ?_ | refine sR ?_ | refine LK.gr (Gr.bslV rfl rfl rfl rfl) ?_ | refine Ask.of (Gr.bslV rfl rfl rfl rfl) ?_ | refine Kx.nil ?_ | refine Kx.stp rfl rfl Qs ?_ | refine kA ?_ | refine kS ?_ | (refine Kx.frzR 0 rfl ?_ <;> refine kF ?_) | refine kP ?_ | refine k1 ?_ | refine kB ?_ | refine kL ?_ | refine zC ?_ | refine zD ?_ | fail))
    conv => whnf
    rw [List.nil_append, List.nil_append]
    have hval := fun q (hq : Small q) => v8Valid_ok q hq
    have hbet := fun q (hq : Small q) => m0Better_ok q r1.cost hq
    have hsw := hs.wk
    have hsd := hs.du
    have hcs : kd = 0 ∨ kd = 1 ∨ kd = 2 ∨ kd = 3 ∨ kd = 4 ∨ kd = 5 := by omega
    have he : r1.code = 0 := by omega
    rcases hcs with rfl | rfl | rfl | rfl | rfl | rfl
    · have h1 : (1 : Int) ≤ p.lim.rest + 1 := by omega
      have c3 := m0Pick_ok y (p.lim.rest + 1) h1 hy
      have b3 := pick_bd (c := y) h1
      generalize pickP y (p.lim.rest + 1) = d at *
      have cv := hval (limP p ⟨d, p.lim.week, p.lim.night, p.lim.minor⟩) ⟨hs.ch, hs.du, hs.wk, hs.aw⟩
      have cb := hbet (limP p ⟨d, p.lim.week, p.lim.night, p.lim.minor⟩) ⟨hs.ch, hs.du, hs.wk, hs.aw⟩
      have hq := hbt (limP p ⟨d, p.lim.week, p.lim.night, p.lim.minor⟩) (relax_lim ⟨by simp only; omega, Int.le_refl _, rfl, Int.le_refl _⟩) he
      repeat' ((conv => whnf) <;> (first | (refine LK.frzR 0 rfl ?_ <;> refine LK.frzR 1 rfl ?_ <;> refine LK.callA ent10 cv rfl rfl Ql ?_) | refine zM ?_ | refine zW ?_ | intro _ | exact zF | refine Br.tt ?_ | refine Br.ff ?_ | (refine Br.mk (fun h => ?_) (fun h => ?_) <;> (try simp only [sh] at h) <;> try first | (exfalso; omega) | exact absurd trivial h | (simp at h; done)) | refine zA ?_ | refine zN ?_ | refine zO ?_ | refine zP ?_ | refine zB ?_ | refine zL ent14 c2 ?_ | refine zG ent14 (fun h => c2) ?_ | refine zL ent14 c3 ?_ | refine zG ent14 (fun h => c3) ?_ | refine zL ent19 cb ?_ | refine zG ent19 (fun h => cb) ?_ | refine lB ?_ | refine lBA ?_ | refine nR ?_ | refine iR ?_ | refine lR ?_ | refine lR0 ?_ | refine lRA ?_ | refine zK ?_ | refine s1 ?_ | refine sA ?_ | refine pS ?_ | refine LK.bsl rfl rfl rfl rfl ?_ | (refine LK.frzR 0 rfl ?_ <;> refine pF ?_) | refine pA ?_ | refine sR ?_ | refine LK.gr (Gr.bslV rfl rfl rfl rfl) ?_ | refine Ask.of (Gr.bslV rfl rfl rfl rfl) ?_ | refine Kx.nil ?_ | refine Kx.stp rfl rfl Qs ?_ | refine kA ?_ | refine kS ?_ | (refine Kx.frzR 0 rfl ?_ <;> refine kF ?_) | refine kP ?_ | refine k1 ?_ | refine kB ?_ | refine kL ?_ | refine zC ?_ | refine zD ?_ | fail))
      conv => whnf
      refine Fin.pure (congrArg B ?_)
      exact fin_bet hq
    · have h1 : (1 : Int) ≤ 10000 := by omega
      have c3 := m0Pick_ok y 10000 h1 hy
      have b3 := pick_bd (c := y) h1
      generalize pickP y 10000 = d at *
      have cv := hval (limP p ⟨p.lim.rest, min 20000 (p.lim.week + d), p.lim.night, p.lim.minor⟩) ⟨hs.ch, hs.du, hs.wk, hs.aw⟩
      have cb := hbet (limP p ⟨p.lim.rest, min 20000 (p.lim.week + d), p.lim.night, p.lim.minor⟩) ⟨hs.ch, hs.du, hs.wk, hs.aw⟩
      have hq := hbt (limP p ⟨p.lim.rest, min 20000 (p.lim.week + d), p.lim.night, p.lim.minor⟩) (relax_lim ⟨Int.le_refl _, by simp only; omega, rfl, Int.le_refl _⟩) he
      repeat' ((conv => whnf) <;> (first | (refine LK.frzR 0 rfl ?_ <;> refine LK.frzR 1 rfl ?_ <;> refine LK.callA ent10 cv rfl rfl Ql ?_) | refine zM ?_ | refine zW ?_ | intro _ | exact zF | refine Br.tt ?_ | refine Br.ff ?_ | (refine Br.mk (fun h => ?_) (fun h => ?_) <;> (try simp only [sh] at h) <;> try first | (exfalso; omega) | exact absurd trivial h | (simp at h; done)) | refine zA ?_ | refine zN ?_ | refine zO ?_ | refine zP ?_ | refine zB ?_ | refine zL ent14 c2 ?_ | refine zG ent14 (fun h => c2) ?_ | refine zL ent14 c3 ?_ | refine zG ent14 (fun h => c3) ?_ | refine zL ent19 cb ?_ | refine zG ent19 (fun h => cb) ?_ | refine lB ?_ | refine lBA ?_ | refine nR ?_ | refine iR ?_ | refine lR ?_ | refine lR0 ?_ | refine lRA ?_ | refine zK ?_ | refine s1 ?_ | refine sA ?_ | refine pS ?_ | refine LK.bsl rfl rfl rfl rfl ?_ | (refine LK.frzR 0 rfl ?_ <;> refine pF ?_) | refine pA ?_ | refine sR ?_ | refine LK.gr (Gr.bslV rfl rfl rfl rfl) ?_ | refine Ask.of (Gr.bslV rfl rfl rfl rfl) ?_ | refine Kx.nil ?_ | refine Kx.stp rfl rfl Qs ?_ | refine kA ?_ | refine kS ?_ | (refine Kx.frzR 0 rfl ?_ <;> refine kF ?_) | refine kP ?_ | refine k1 ?_ | refine kB ?_ | refine kL ?_ | refine zC ?_ | refine zD ?_ | fail))
      conv => whnf
      refine Fin.pure (congrArg B ?_)
      exact fin_bet hq
    · have h1 : (1 : Int) ≤ 1000 := by omega
      have c3 := m0Pick_ok y 1000 h1 hy
      have b3 := pick_bd (c := y) h1
      generalize pickP y 1000 = d at *
      have cv := hval (limP p ⟨p.lim.rest, p.lim.week, p.lim.night, min 1500 (p.lim.minor + d)⟩) ⟨hs.ch, hs.du, hs.wk, hs.aw⟩
      have cb := hbet (limP p ⟨p.lim.rest, p.lim.week, p.lim.night, min 1500 (p.lim.minor + d)⟩) ⟨hs.ch, hs.du, hs.wk, hs.aw⟩
      have hq := hbt (limP p ⟨p.lim.rest, p.lim.week, p.lim.night, min 1500 (p.lim.minor + d)⟩) (relax_lim ⟨Int.le_refl _, Int.le_refl _, rfl, by simp only; omega⟩) he
      repeat' ((conv => whnf) <;> (first | (refine LK.frzR 0 rfl ?_ <;> refine LK.frzR 1 rfl ?_ <;> refine LK.callA ent10 cv rfl rfl Ql ?_) | refine zM ?_ | refine zW ?_ | intro _ | exact zF | refine Br.tt ?_ | refine Br.ff ?_ | (refine Br.mk (fun h => ?_) (fun h => ?_) <;> (try simp only [sh] at h) <;> try first | (exfalso; omega) | exact absurd trivial h | (simp at h; done)) | refine zA ?_ | refine zN ?_ | refine zO ?_ | refine zP ?_ | refine zB ?_ | refine zL ent14 c2 ?_ | refine zG ent14 (fun h => c2) ?_ | refine zL ent14 c3 ?_ | refine zG ent14 (fun h => c3) ?_ | refine zL ent19 cb ?_ | refine zG ent19 (fun h => cb) ?_ | refine lB ?_ | refine lBA ?_ | refine nR ?_ | refine iR ?_ | refine lR ?_ | refine lR0 ?_ | refine lRA ?_ | refine zK ?_ | refine s1 ?_ | refine sA ?_ | refine pS ?_ | refine LK.bsl rfl rfl rfl rfl ?_ | (refine LK.frzR 0 rfl ?_ <;> refine pF ?_) | refine pA ?_ | refine sR ?_ | refine LK.gr (Gr.bslV rfl rfl rfl rfl) ?_ | refine Ask.of (Gr.bslV rfl rfl rfl rfl) ?_ | refine Kx.nil ?_ | refine Kx.stp rfl rfl Qs ?_ | refine kA ?_ | refine kS ?_ | (refine Kx.frzR 0 rfl ?_ <;> refine kF ?_) | refine kP ?_ | refine k1 ?_ | refine kB ?_ | refine kL ?_ | refine zC ?_ | refine zD ?_ | fail))
      conv => whnf
      refine Fin.pure (congrArg B ?_)
      exact fin_bet hq
    · have hsq : Small (wksP p (p.workers ++ [wk])) := ⟨hs.ch, hs.du, by show (p.workers ++ [wk]).length ≤ 1000; simp; omega, fun w hw => by
        rcases List.mem_append.1 hw with hw | hw
        · exact hs.aw w hw
        · rw [List.mem_singleton] at hw; subst hw; omega⟩
      have cv := hval _ hsq
      have cb := hbet _ hsq
      have hq := hbt _ (relax_more wk) he
      have hpc : pcs (wksP p (p.workers ++ [wk])) = [.v (.string p.zone.name), I p.zone.base, .sl 2 (p.zone.chs.map chav), .sl 3 (p.duties.map duav), .sl 5 (p.workers.map wkav ++ [wkav wk]), I p.lim.rest, I p.lim.week, I p.lim.night.1, I p.lim.night.2, I p.lim.minor] := by
        show [_, _, _, _, AV.sl 5 ((p.workers ++ [wk]).map wkav), _, _, _, _, _] = _
        rw [List.map_append]
        rfl
      rw [hpc] at cv cb
      repeat' ((conv => whnf) <;> (first | (refine LK.frzR 0 rfl ?_ <;> refine LK.frzR 1 rfl ?_ <;> refine LK.callA ent10 cv rfl rfl Ql ?_) | refine zM ?_ | refine zW ?_ | intro _ | exact zF | refine Br.tt ?_ | refine Br.ff ?_ | (refine Br.mk (fun h => ?_) (fun h => ?_) <;> (try simp only [sh] at h) <;> try first | (exfalso; omega) | exact absurd trivial h | (simp at h; done)) | refine zA ?_ | refine zN ?_ | refine zO ?_ | refine zP ?_ | refine zB ?_ | refine zL ent14 c2 ?_ | refine zG ent14 (fun h => c2) ?_ | refine zL ent19 cb ?_ | refine zG ent19 (fun h => cb) ?_ | refine lB ?_ | refine lBA ?_ | refine zK ?_ | refine s1 ?_ | refine sA ?_ | refine pS ?_ | refine LK.gr (Gr.bslV rfl rfl rfl rfl) ?_ | refine Ask.of (Gr.bslV rfl rfl rfl rfl) ?_ | refine zC ?_ | refine zD ?_ | fail))
      conv => whnf
      refine Fin.pure (congrArg B ?_)
      exact fin_bet hq
    · by_cases hw0 : 0 < p.workers.length
      · have h1 : (1 : Int) ≤ ((p.workers.map wkav).length : Int) := by omega
        have c3 := m0Pick_ok y ((p.workers.map wkav).length) h1 hy
        have b3 := pick_bd (c := y) h1
        have h2 : (1 : Int) ≤ 16 := by omega
        have c4 := m0Pick_ok y 16 h2 hy
        have b4 := pick_bd (c := y) h2
        generalize pickP y ((p.workers.map wkav).length) = d at *
        generalize pickP y 16 = e at *
        have hd : d.toNat < p.workers.length := by omega
        have hskb := (wkOk_iff.1 (List.all_eq_true.1 hVl.1 _ (getD_mem hd))).1
        unfold inB at hskb
        rw [decide_eq_true_eq] at hskb
        have hsq : Small (wksP p (p.workers.set d.toNat (moreSk (p.workers.getD d.toNat default) (((p.workers.getD d.toNat default).skill.toNat ||| e.toNat : Nat) : Int)))) := ⟨hs.ch, hs.du, by show (List.set _ _ _).length ≤ 1000; rw [List.length_set]; exact hsw, fun w hw => by
          rcases List.mem_or_eq_of_mem_set hw with hw | rfl
          · exact hs.aw w hw
          · show (p.workers.getD d.toNat default).away.length ≤ 1000
            exact hs.aw _ (getD_mem hd)⟩
        have cv := hval _ hsq
        have cb := hbet _ hsq
        have hq := hbt _ (relax_sk (b := e.toNat) hd (Int.toNat_natCast _)) he
        have hpc : pcs (wksP p (p.workers.set d.toNat (moreSk (p.workers.getD d.toNat default) (((p.workers.getD d.toNat default).skill.toNat ||| e.toNat : Nat) : Int)))) = [.v (.string p.zone.name), I p.zone.base, .sl 2 (p.zone.chs.map chav), .sl 3 (p.duties.map duav), .sl 5 ((p.workers.map wkav).set d.toNat ((wkav (p.workers.getD d.toNat default)).setCell 1 (I (((p.workers.getD d.toNat default).skill.toNat ||| e.toNat : Nat) : Int)))), I p.lim.rest, I p.lim.week, I p.lim.night.1, I p.lim.night.2, I p.lim.minor] := by
          show [_, _, _, _, AV.sl 5 ((p.workers.set d.toNat (moreSk (p.workers.getD d.toNat default) (((p.workers.getD d.toNat default).skill.toNat ||| e.toNat : Nat) : Int))).map wkav), _, _, _, _, _] = _
          rw [List.map_set]
          rfl
        rw [hpc] at cv cb
        repeat' ((conv => whnf) <;> (first | (refine LK.frzR 0 rfl ?_ <;> refine LK.frzR 1 rfl ?_ <;> refine LK.callA ent10 cv rfl rfl Ql ?_) | refine Ask.of (Gr.orI rfl rfl (by omega) (by omega)) ?_ | refine zM ?_ | refine zW ?_ | intro _ | exact zF | refine Br.tt ?_ | refine Br.ff ?_ | (refine Br.mk (fun h => ?_) (fun h => ?_) <;> (try simp only [sh] at h) <;> try first | (exfalso; omega) | exact absurd trivial h | (simp at h; done)) | refine zA ?_ | refine zN ?_ | refine zO ?_ | refine zP ?_ | refine zB ?_ | refine zL ent14 c2 ?_ | refine zG ent14 (fun h => c2) ?_ | refine zL ent14 c3 ?_ | refine zG ent14 (fun h => c3) ?_ | refine zL ent14 c4 ?_ | refine zG ent14 (fun h => c4) ?_ | refine zL ent19 cb ?_ | refine zG ent19 (fun h => cb) ?_ | refine lB ?_ | refine lBA ?_ | refine lM ?_ | refine lM0 ?_ | refine lMA ?_ | refine sM ?_ | refine nR ?_ | refine iR ?_ | refine lR ?_ | refine lR0 ?_ | refine lRA ?_ | refine zK ?_ | refine s1 ?_ | refine sA ?_ | refine LK.bsl rfl rfl rfl rfl ?_ | (refine LK.frzR 0 rfl ?_ <;> refine pF ?_) | refine pA ?_ | refine sR ?_ | refine LK.gr (Gr.bslV rfl rfl rfl rfl) ?_ | refine Ask.of (Gr.bslV rfl rfl rfl rfl) ?_ | refine zC ?_ | refine zD ?_ | fail))
        conv => whnf
        refine Fin.pure (congrArg B ?_)
        exact fin_bet hq
      · -- no worker: nothing changes
        have cv := hval p hs
        have cb := hbet p hs
        have hq := hbt p (fun h => ⟨h, Int.le_refl _⟩) he
        repeat' ((conv => whnf) <;> (first | (refine LK.frzR 0 rfl ?_ <;> refine LK.frzR 1 rfl ?_ <;> refine LK.callA ent10 cv rfl rfl Ql ?_) | refine zM ?_ | refine zW ?_ | intro _ | exact zF | refine Br.tt ?_ | refine Br.ff ?_ | (refine Br.mk (fun h => ?_) (fun h => ?_) <;> (try simp only [sh] at h) <;> try first | (exfalso; omega) | exact absurd trivial h | (simp at h; done)) | refine zA ?_ | refine zN ?_ | refine zO ?_ | refine zP ?_ | refine zB ?_ | refine zL ent14 c2 ?_ | refine zG ent14 (fun h => c2) ?_ | refine zL ent19 cb ?_ | refine zG ent19 (fun h => cb) ?_ | refine lB ?_ | refine lBA ?_ | refine nR ?_ | refine iR ?_ | refine lR ?_ | refine lR0 ?_ | refine lRA ?_ | refine zK ?_ | refine s1 ?_ | refine sA ?_ | refine LK.bsl rfl rfl rfl rfl ?_ | (refine LK.frzR 0 rfl ?_ <;> refine pF ?_) | refine pA ?_ | refine sR ?_ | refine LK.gr (Gr.bslV rfl rfl rfl rfl) ?_ | refine Ask.of (Gr.bslV rfl rfl rfl rfl) ?_ | refine zC ?_ | refine zD ?_ | fail))
        conv => whnf
        refine Fin.pure (congrArg B ?_)
        exact fin_bet hq
    · by_cases hd0 : 0 < p.duties.length
      · have h1 : (1 : Int) ≤ ((p.duties.map duav).length : Int) := by omega
        have c3 := m0Pick_ok y ((p.duties.map duav).length) h1 hy
        have b3 := pick_bd (c := y) h1
        generalize pickP y ((p.duties.map duav).length) = d at *
        have hd : d.toNat < p.duties.length := by omega
        have hsq : Small (lessP p d.toNat) := ⟨hs.ch, by show (List.take _ _ ++ List.drop _ _).length ≤ 1000; rw [less_len hd]; omega, hs.wk, hs.aw⟩
        have cv := hval _ hsq
        have cb := hbet _ hsq
        have hq := hbt _ (relax_less (posP_of hv) hd (fun w h => (wage_bdP hv w h).1) (fun d h => (min_bd hv d h).1)) he
        have hpc : pcs (lessP p d.toNat) = [.v (.string p.zone.name), I p.zone.base, .sl 2 (p.zone.chs.map chav), .sl 3 (([] ++ (p.duties.take d.toNat).map duav) ++ (p.duties.drop (d + 1).toNat).map duav), .sl 5 (p.workers.map wkav), I p.lim.rest, I p.lim.week, I p.lim.night.1, I p.lim.night.2, I p.lim.minor] := by
          show [_, _, _, AV.sl 3 ((p.duties.take d.toNat ++ p.duties.drop (d.toNat + 1)).map duav), _, _, _, _, _, _] = _
          rw [List.map_append, show (d + 1).toNat = d.toNat + 1 by omega]
          rfl
        rw [hpc] at cv cb
        have g1 : (p.duties.take d.toNat).length ≤ 1000 := by rw [List.length_take]; omega
        have g2 : (p.duties.drop (d + 1).toNat).length ≤ 1000 := by rw [List.length_drop]; omega
        have g3 : ((p.duties.take d.toNat).map duav).length ≤ 1000 := by rw [List.length_map]; exact g1
        have g4 : ((p.duties.drop (d + 1).toNat).map duav).length ≤ 1000 := by rw [List.length_map]; exact g2
        repeat' ((conv => whnf) <;> (first | (refine LK.frzR 0 rfl ?_ <;> refine LK.frzR 1 rfl ?_ <;> refine LK.callA ent10 cv rfl rfl Ql ?_) | (refine Kx.eff rfl (Eff.mkC (T := tab) (N := 10) rfl rfl rfl rfl (by omega)) (by rintro _ _ ⟨A, k, cp, rfl, rfl⟩; exact Qs) ?_ <;> rintro _ _ ⟨A, k, cp, rfl, rfl⟩) | refine CK.anyK [1, 2, 3, 4, 6, 7, 8, 9, 10] [0, 5, 11, 12, 13] _ (List.Sublist.cons _ (List.Sublist.cons _ (List.Sublist.cons _ (List.Sublist.cons _ (List.Sublist.refl _))))) Qk ?_ | refine zM ?_ | refine zW ?_ | intro _ | exact zF | refine Br.tt ?_ | refine Br.ff ?_ | (refine Br.mk (fun h => ?_) (fun h => ?_) <;> (try simp only [sh] at h) <;> try first | (exfalso; omega) | exact absurd trivial h | (simp at h; done)) | refine zA ?_ | refine zN ?_ | refine zO ?_ | refine zP ?_ | refine zB ?_ | refine zL ent14 c2 ?_ | refine zG ent14 (fun h => c2) ?_ | refine zL ent14 c3 ?_ | refine zG ent14 (fun h => c3) ?_ | refine zL ent19 cb ?_ | refine zG ent19 (fun h => cb) ?_ | refine lB ?_ | refine lBA ?_ | refine nR ?_ | refine iR ?_ | refine lR ?_ | refine lR0 ?_ | refine lRA ?_ | refine zK ?_ | refine s1 ?_ | refine sA ?_ | refine pS ?_ | refine LK.bsl rfl rfl rfl rfl ?_ | (refine LK.frzR 0 rfl ?_ <;> refine pF ?_) | refine pA ?_ | refine sR ?_ | refine LK.gr (Gr.bslV rfl rfl rfl rfl) ?_ | refine Ask.of (Gr.bslV rfl rfl rfl rfl) ?_ | refine Kx.nil ?_ | refine Kx.stp rfl rfl Qs ?_ | refine kA ?_ | refine kS ?_ | (refine Kx.frzR 0 rfl ?_ <;> refine kF ?_) | refine kP ?_ | refine k1 ?_ | refine kB ?_ | refine kL ?_ | refine zC ?_ | refine zD ?_ | fail))
        rw [← List.map_take, ← List.map_drop]
        repeat' ((conv => whnf) <;> (first | (refine LK.frzR 0 rfl ?_ <;> refine LK.frzR 1 rfl ?_ <;> refine LK.callA ent10 cv rfl rfl Ql ?_) | refine zM ?_ | refine zW ?_ | intro _ | exact zF | refine Br.tt ?_ | refine Br.ff ?_ | (refine Br.mk (fun h => ?_) (fun h => ?_) <;> (try simp only [sh] at h) <;> try first | (exfalso; omega) | exact absurd trivial h | (simp at h; done)) | refine zA ?_ | refine zN ?_ | refine zO ?_ | refine zP ?_ | refine zB ?_ | refine zL ent19 cb ?_ | refine zG ent19 (fun h => cb) ?_ | refine lB ?_ | refine lBA ?_ | refine zK ?_ | refine s1 ?_ | refine sA ?_ | refine pS ?_ | refine LK.gr (Gr.bslV rfl rfl rfl rfl) ?_ | refine Ask.of (Gr.bslV rfl rfl rfl rfl) ?_ | refine Kx.nil ?_ | refine Kx.stp rfl rfl Qs ?_ | refine kA ?_ | refine kS ?_ | (refine Kx.frzR 0 rfl ?_ <;> refine kF ?_) | refine kP ?_ | refine k1 ?_ | refine kB ?_ | refine kL ?_ | refine zC ?_ | refine zD ?_ | fail))
        conv => whnf
        refine Fin.pure (congrArg B ?_)
        exact fin_bet hq
      · -- no duty: nothing changes
        have cv := hval p hs
        have cb := hbet p hs
        have hq := hbt p (fun h => ⟨h, Int.le_refl _⟩) he
        repeat' ((conv => whnf) <;> (first | (refine LK.frzR 0 rfl ?_ <;> refine LK.frzR 1 rfl ?_ <;> refine LK.callA ent10 cv rfl rfl Ql ?_) | refine zM ?_ | refine zW ?_ | intro _ | exact zF | refine Br.tt ?_ | refine Br.ff ?_ | (refine Br.mk (fun h => ?_) (fun h => ?_) <;> (try simp only [sh] at h) <;> try first | (exfalso; omega) | exact absurd trivial h | (simp at h; done)) | refine zA ?_ | refine zN ?_ | refine zO ?_ | refine zP ?_ | refine zB ?_ | refine zL ent14 c2 ?_ | refine zG ent14 (fun h => c2) ?_ | refine zL ent19 cb ?_ | refine zG ent19 (fun h => cb) ?_ | refine lB ?_ | refine lBA ?_ | refine nR ?_ | refine iR ?_ | refine lR ?_ | refine lR0 ?_ | refine lRA ?_ | refine zK ?_ | refine s1 ?_ | refine sA ?_ | refine LK.bsl rfl rfl rfl rfl ?_ | (refine LK.frzR 0 rfl ?_ <;> refine pF ?_) | refine pA ?_ | refine sR ?_ | refine LK.gr (Gr.bslV rfl rfl rfl rfl) ?_ | refine Ask.of (Gr.bslV rfl rfl rfl rfl) ?_ | refine zC ?_ | refine zD ?_ | fail))
        conv => whnf
        refine Fin.pure (congrArg B ?_)
        exact fin_bet hq
  · cases hf : fineP p 1000 with
    | false =>
      rw [hf] at c1
      refine fn_run (T := tab) Tryz.func5 rfl Tryz.ntmps5 rfl Tryz.results5 (fun _ => ?_)
      repeat' ((conv => whnf) <;> (first | refine zM ?_ | refine zW ?_ | intro _ | exact zF | refine Fin.pure ?_ | refine Br.tt ?_ | refine Br.ff ?_ | (refine Br.mk (fun h => ?_) (fun h => ?_) <;> (try simp only [sh] at h) <;> try first | (exfalso; omega) | exact absurd trivial h | (simp at h; done)) | refine zA ?_ | refine zN ?_ | refine zO ?_ | refine zP ?_ | refine zB ?_ | refine zL ent9 c0 ?_ | refine zG ent9 (fun h => c0) ?_ | refine zL ent12 c1 ?_ | refine zG ent12 (fun h => c1) ?_ | refine lB ?_ | refine lBA ?_ | refine zK ?_ | refine s1 ?_ | refine sA ?_ | refine zC ?_ | fail))
    | true =>
      rw [hf] at c1
      have hf0 := hf
      unfold fineP at hf
      simp only [Bool.and_eq_true] at hf
      have hsm := smP_iff.1 hf.1
      have hgo : ¬ (p.workers.length ≤ 4 ∧ wk.away.length ≤ 20) := fun h => hgo ⟨hf0, h⟩
      refine fn_run (T := tab) Tryz.func5 rfl Tryz.ntmps5 rfl Tryz.results5 (fun _ => ?_)
      repeat' ((conv => whnf) <;> (first | refine zM ?_ | refine zW ?_ | intro _ | exact zF | refine Fin.pure ?_ | refine Br.tt ?_ | refine Br.ff ?_ | (refine Br.mk (fun h => ?_) (fun h => ?_) <;> (try simp only [sh] at h) <;> try first | (exfalso; omega) | exact absurd trivial h | (simp at h; done)) | refine zA ?_ | refine zN ?_ | refine zO ?_ | refine zP ?_ | refine zB ?_ | refine zL ent9 c0 ?_ | refine zG ent9 (fun h => c0) ?_ | refine zL ent12 c1 ?_ | refine zG ent12 (fun h => c1) ?_ | refine lB ?_ | refine lBA ?_ | refine zK ?_ | refine s1 ?_ | refine sA ?_ | refine zC ?_ | fail))
end Go.Proofs.YtecemgicnboaaaaGreat
