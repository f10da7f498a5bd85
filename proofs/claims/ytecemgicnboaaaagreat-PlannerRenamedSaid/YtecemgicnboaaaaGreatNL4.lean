/-
  Law 20: PlannerRenamed.
  Conditions: those of each theorem.
-/
import Derived.Test.YtecemgicnboaaaaGreatNB5
import Derived.Test.YtecemgicnboaaaaGreatGF
namespace Go.E2
theorem Kw.ask {P : Program} {c : Ctx} {n : Cfg} {ops : Array Oper} {F : Fr} {L : List Ent} {W : List Nat → List Ent → Prop} {K : Fr → List Ent → Prop} {i : Nat} {is : List Nat} {d : Option Tmp} {o : Op} {ty : TypeId} {pos : String} {aft : Array Edge} (ho : ops[i]? = some ⟨d, o, ty, pos, aft, none⟩) (hw : W (i :: is) L) (h : Ask P c n true o ty F L fun r => putK d r F fun F => Kw P c n ops W K is F L) : Kw P c n ops W K (i :: is) F L := by
  obtain ⟨r, h1, h2⟩ := h.out
  exact Kw.gr ho hw (h1 rfl) h2
end Go.E2
namespace Go.Proofs.YtecemgicnboaaaaGreat
open Go.E2 Go.Wage
theorem swap_set1 {α β : Type} [Inhabited α] (f : α → β) {l : List α} {a b : Nat} : (l.map f).set a (f (l.getD b default)) = (l.set a (l.getD b default)).map f := by rw [List.map_set]
theorem swap_set {α β : Type} [Inhabited α] (f : α → β) {l : List α} {a b : Nat} (ha : a < l.length) (_hb : b < l.length) :
    (([] ++ l.map f).set a (f (l.getD b default))).set b (f (l.getD a default)) = (swL a b l).map f := by
  refine List.ext_getElem (by simp [swL_len]) fun i h1 h2 => ?_
  have hi : i < l.length := by rw [List.length_map, swL_len] at h2; exact h2
  have h3 : (swL a b l)[i]'(by rw [swL_len]; exact hi) = l.getD (swN a b i) default := by
    rw [← swL_get hi, getD_at (by rw [swL_len]; exact hi)]
  rw [List.getElem_map, h3, List.getElem_set]
  unfold swN
  by_cases e1 : b = i
  · rw [if_pos e1]
    subst e1
    by_cases e2 : b = a
    · subst e2
      rw [if_pos rfl]
    · rw [if_neg e2, if_pos rfl]
  · rw [if_neg e1, List.getElem_set]
    by_cases e2 : a = i
    · subst e2
      rw [if_pos rfl, if_pos rfl]
    · rw [if_neg e2, if_neg (fun h => e2 h.symm), if_neg (fun h => e1 h.symm), getD_at hi]
      simp
theorem small_ren {a b : Nat} {p : Pl} (h : Small p) : Small (renP a b p) :=
  ⟨h.ch, by show (swL a b p.duties).length ≤ _; rw [swL_len]; exact h.du, h.wk, h.aw⟩
theorem solve_ren {p : Pl} {st : Int} {a b : Nat} (hv : validP p = true) (hst : 0 ≤ st ∧ st ≤ 100000) (ha : a < p.duties.length) (hb : b < p.duties.length) :
    (solveP p st).code = 201 ∨ (solveP (renP a b p) st).code = 201 ∨ ((solveP p st).code = (solveP (renP a b p) st).code ∧ (solveP p st).cost = (solveP (renP a b p) st).cost) := by
  have hl : (renP a b p).duties.length = p.duties.length := swL_len _ _ _
  have hv' : validP (renP a b p) = true := by rw [valid_ren ha hb]; exact hv
  have hr := best_ren ha hb
  rcases solve_cases hv hst (fun d h => (min_bd hv d h).1) (posP_of hv) with ⟨lg, h1, h2, _⟩ | ⟨h1, h2, h3⟩ | ⟨h1, h2⟩ | h1
  · rcases solve_cases hv' hst (fun d h => (min_bd hv' d h).1) (posP_of hv') with ⟨lg', g1, g2, _⟩ | ⟨g1, g2, g3⟩ | ⟨g1, g2⟩ | g1
    · rw [h1, g1]
      exact .inr (.inr ⟨rfl, (hr.2 h2).symm⟩)
    · omega
    · rw [hr.1, h2] at g2; cases g2
    · rw [g1]; exact .inr (.inl rfl)
  · omega
  · rcases solve_cases hv' hst (fun d h => (min_bd hv' d h).1) (posP_of hv') with ⟨lg', g1, g2, _⟩ | ⟨g1, g2, g3⟩ | ⟨g1, g2⟩ | g1
    · rw [hr.1, h2] at g2; cases g2
    · omega
    · rw [h1, g1]
      exact .inr (.inr ⟨rfl, rfl⟩)
    · rw [g1]; exact .inr (.inl rfl)
  · rw [h1]; exact .inl rfl
set_option maxRecDepth 8000 in
set_option maxHeartbeats 8000000 in
theorem m0Renamed_all (p : Pl) (x y : Int) (hz : PlZ p) (hx : -9223372036854775808 ≤ x ∧ x ≤ 9223372036854775807) (hy : -9223372036854775808 ≤ y ∧ y ≤ 9223372036854775807) : FnA Tryz.prog 6 [.agg (pcs p), I x, I y] (B true) := by
  have c0 := m0Head_ok
  have c1 := m0Small_ok p 1000 (by omega) hz
  have hld : (p.duties.map duav).length = p.duties.length := by simp
  cases hf : fineP p 1000 with
  | false =>
    rw [hf] at c1
    refine fn_run (T := tab) Tryz.func6 rfl Tryz.ntmps6 rfl Tryz.results6 (fun _ => ?_)
    repeat' ((conv => whnf) <;> (first | refine zM ?_ | refine zW ?_ | intro _ | exact zF | refine Fin.pure ?_ | refine Br.tt ?_ | refine Br.ff ?_ | (refine Br.mk (fun h => ?_) (fun h => ?_) <;> (try simp only [sh] at h) <;> try first | (exfalso; omega) | exact absurd trivial h | (simp at h; done)) | refine zA ?_ | refine zN ?_ | refine zO ?_ | refine zP ?_ | refine zB ?_ | refine zL ent9 c0 ?_ | refine zG ent9 (fun h => c0) ?_ | refine zL ent12 c1 ?_ | refine zG ent12 (fun h => c1) ?_ | refine lB ?_ | refine lBA ?_ | refine zK ?_ | refine s1 ?_ | refine sA ?_ | refine zC ?_ | fail))
  | true =>
    rw [hf] at c1
    by_cases h0 : 0 < p.duties.length
    · unfold fineP at hf
      simp only [Bool.and_eq_true] at hf
      have hs := small_sm hf.1
      have hv := hf.2.1
      have hsd := hs.du
      have hnl : (([] : List AV) ++ p.duties.map duav).length = p.duties.length := by simp
      have hn1 : (1 : Int) ≤ ((p.duties.map duav).length : Int) := by omega
      have c2 := m0Pick_ok x ((p.duties.map duav).length) hn1 hx
      have c3 := m0Pick_ok y ((p.duties.map duav).length) hn1 hy
      have b2 := pick_bd (c := x) hn1
      have b3 := pick_bd (c := y) hn1
      generalize pickP x ((p.duties.map duav).length) = i at *
      generalize pickP y ((p.duties.map duav).length) = j at *
      have hi : i.toNat < p.duties.length := by omega
      have hj : j.toNat < p.duties.length := by omega
      have q1 := pSolve_ok p 4000 hs posP_of (by omega)
      have q2 := pSolve_ok (renP i.toNat j.toNat p) 4000 (small_ren hs) posP_of (by omega)
      have hsr := solve_ren (p := p) (st := 4000) hv (by omega) hi hj
      generalize solveP p 4000 = r1 at *
      generalize solveP (renP i.toNat j.toNat p) 4000 = r2 at *
      unfold solav at q1 q2
      refine fn_run (T := tab) Tryz.func6 rfl Tryz.ntmps6 rfl Tryz.results6 (fun _ => ?_)
      repeat' ((conv => whnf) <;> (first | (refine Kx.eff rfl (Eff.mkC (T := tab) (N := 10) rfl rfl rfl rfl (by omega)) (by rintro _ _ ⟨A, k, cp, rfl, rfl⟩; exact Qs) ?_ <;> rintro _ _ ⟨A, k, cp, rfl, rfl⟩) | refine CK.anyK [1, 2] [0, 3, 4, 5] _ (List.Sublist.cons _ (List.Sublist.refl _)) Qk ?_ | refine zM ?_ | refine zW ?_ | intro _ | exact zF | refine Br.tt ?_ | refine Br.ff ?_ | (refine Br.mk (fun h => ?_) (fun h => ?_) <;> (try simp only [sh] at h) <;> try first | (exfalso; omega) | exact absurd trivial h | (simp at h; done)) | refine zA ?_ | refine zN ?_ | refine zO ?_ | refine zP ?_ | refine zB ?_ | refine zL ent9 c0 ?_ | refine zG ent9 (fun h => c0) ?_ | refine zL ent12 c1 ?_ | refine zG ent12 (fun h => c1) ?_ | refine zL ent14 c2 ?_ | refine zG ent14 (fun h => c2) ?_ | refine zL ent14 c3 ?_ | refine zG ent14 (fun h => c3) ?_ | refine lB ?_ | refine lBA ?_ | refine nR ?_ | refine iR ?_ | refine lR ?_ | refine lR0 ?_ | refine lRA ?_ | refine zK ?_ | refine s1 ?_ | refine sA ?_ | refine pS ?_ | refine LK.bsl rfl rfl rfl rfl ?_ | (refine LK.frzR 0 rfl ?_ <;> refine pF ?_) | refine pA ?_ | refine sR ?_ | refine LK.gr (Gr.bslV rfl rfl rfl rfl) ?_ | refine Ask.of (Gr.bslV rfl rfl rfl rfl) ?_ | refine Kx.nil ?_ | refine Kx.stp rfl rfl Qs ?_ | refine kA ?_ | refine kS ?_ | (refine Kx.frzR 0 rfl ?_ <;> refine kF ?_) | refine kP ?_ | refine k1 ?_ | refine kB ?_ | refine kL ?_ | refine zC ?_ | refine zD ?_ | fail))
      rename_i A q cp
      rw [List.nil_append]
      repeat' ((conv => whnf) <;> (first | refine zM ?_ | refine zW ?_ | intro _ | exact zF | refine Br.tt ?_ | refine Br.ff ?_ | (refine Br.mk (fun h => ?_) (fun h => ?_) <;> (try simp only [sh] at h) <;> try first | (exfalso; omega) | exact absurd trivial h | (simp at h; done)) | refine zA ?_ | refine zN ?_ | refine zO ?_ | refine zP ?_ | refine zB ?_ | refine lB ?_ | refine lBA ?_ | refine zK ?_ | refine s1 ?_ | refine sA ?_ | refine zC ?_ | fail))
      conv => whnf
      have hset1 : (p.duties.map duav).set i.toNat (AV.agg [I (p.duties.getD j.toNat default).frm, I (p.duties.getD j.toNat default).to_, I (p.duties.getD j.toNat default).skill]) = (p.duties.set i.toNat (p.duties.getD j.toNat default)).map duav := swap_set1 duav
      have hset2 : ((p.duties.set i.toNat (p.duties.getD j.toNat default)).map duav).set j.toNat (AV.agg [I (p.duties.getD i.toNat default).frm, I (p.duties.getD i.toNat default).to_, I (p.duties.getD i.toNat default).skill]) = (swL i.toNat j.toNat p.duties).map duav := by
        rw [← swap_set1]
        exact swap_set duav hi hj
      refine CK.anyS (T := tab) [0, 1, 2, 3, 4, 5, 6, 7, 8, 9, 10, 11, 12, 13, 14, 15] [16, 17, 18, 19] [3, 4, 5, 11, 12, 13, 14] 0 (.row (.slice A q cp) 52 3 0 false ((p.duties.set i.toNat (p.duties.getD j.toNat default)).map duav)) 18 17 (by exact Qk) (by exact Qk) ?_
      have hls : ((p.duties.set i.toNat (p.duties.getD j.toNat default)).map duav).length = p.duties.length := by simp
      repeat' ((conv => whnf) <;> (first | refine iR (T := tab) ?_ | refine zM ?_ | refine zW ?_ | intro _ | exact zF | refine Br.tt ?_ | refine Br.ff ?_ | (refine Br.mk (fun h => ?_) (fun h => ?_) <;> (try simp only [sh] at h) <;> try first | (exfalso; omega) | exact absurd trivial h | (simp at h; done)) | refine zA ?_ | refine zN ?_ | refine zO ?_ | refine zP ?_ | refine zB ?_ | refine lB ?_ | refine lBA ?_ | refine lM ?_ | refine lM0 ?_ | refine lMA ?_ | refine sM ?_ | refine zK ?_ | refine s1 ?_ | refine sA ?_ | refine zC ?_ | fail))
      refine ⟨by repeat (first | exact fun _ => rfl | refine look_same rfl ?_), ?_⟩
      refine Kw.ask rfl (by exact Or.inl ⟨by simp, rfl⟩) (iR (T := tab) ?_)
      conv => whnf
      refine Kw.eff rfl (Eff.stRA (T := tab) 0 rfl rfl rfl rfl rfl (Nat.zero_le _) (by omega) rfl rfl) (by exact Or.inl ⟨by simp, rfl⟩) ?_
      rintro _ _ ⟨rfl, rfl⟩
      rw [hset1]
      refine Kw.ask rfl (by exact Or.inr ⟨by simp, rfl⟩) (iR (T := tab) ?_)
      conv => whnf
      refine Kw.eff rfl (Eff.stRA (T := tab) 0 rfl rfl rfl rfl rfl (Nat.zero_le _) (by omega) rfl rfl) (by exact Or.inr ⟨by simp, rfl⟩) ?_
      rintro _ _ ⟨rfl, rfl⟩
      rw [hset2]
      refine Kw.nil ?_
      repeat' ((conv => whnf) <;> (first | (refine LK.frzR 0 rfl ?_ <;> refine LK.callA ent11 q2 rfl rfl Ql ?_) | refine zM ?_ | refine zW ?_ | intro _ | exact zF | refine Br.tt ?_ | refine Br.ff ?_ | (refine Br.mk (fun h => ?_) (fun h => ?_) <;> (try simp only [sh] at h) <;> try first | (exfalso; omega) | exact absurd trivial h | (simp at h; done)) | refine zA ?_ | refine zN ?_ | refine zO ?_ | refine zP ?_ | refine zB ?_ | refine zL ent11 q1 ?_ | refine zG ent11 (fun h => q1) ?_ | refine lB ?_ | refine lBA ?_ | refine zK ?_ | refine s1 ?_ | refine sA ?_ | refine zC ?_ | fail))
      rename_i h
      conv => whnf
      refine Fin.pure (congrArg B ?_)
      have hx := (hsr.resolve_left h.1).resolve_left h.2
      rw [decide_eq_true hx.1, decide_eq_true hx.2]
      rfl
    · refine fn_run (T := tab) Tryz.func6 rfl Tryz.ntmps6 rfl Tryz.results6 (fun _ => ?_)
      repeat' ((conv => whnf) <;> (first | refine zM ?_ | refine zW ?_ | intro _ | exact zF | refine Fin.pure ?_ | refine Br.tt ?_ | refine Br.ff ?_ | (refine Br.mk (fun h => ?_) (fun h => ?_) <;> (try simp only [sh] at h) <;> try first | (exfalso; omega) | exact absurd trivial h | (simp at h; done)) | refine zA ?_ | refine zN ?_ | refine zO ?_ | refine zP ?_ | refine zB ?_ | refine zL ent9 c0 ?_ | refine zG ent9 (fun h => c0) ?_ | refine zL ent12 c1 ?_ | refine zG ent12 (fun h => c1) ?_ | refine lB ?_ | refine lBA ?_ | refine zK ?_ | refine s1 ?_ | refine sA ?_ | refine zC ?_ | fail))
end Go.Proofs.YtecemgicnboaaaaGreat
