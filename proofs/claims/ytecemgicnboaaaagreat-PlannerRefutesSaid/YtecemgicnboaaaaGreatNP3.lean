/-
  Law 20: PlannerRefutes, the law's function.
  Conditions: those of each theorem.
-/
import Derived.Test.YtecemgicnboaaaaGreatNB5
import Derived.Test.YtecemgicnboaaaaGreatNP2
namespace Go.Proofs.YtecemgicnboaaaaGreat
open Go.E2 Go.Wage
theorem ref_short {p : Pl} {B : Int} {fu : Int} (hv : validP p = true) (hn : 0 < p.duties.length) (hl : LfP p B p.duties.length [] 0) (h0 : (refP p B p.duties.length [] 0 ⟨fu, someL p p.duties.length⟩).2.2 = 0) : ∀ s ∈ (refP p B p.duties.length [] 0 ⟨fu, someL p p.duties.length⟩).1.log, s.cl.length ≤ 100 ∧ s.frm.length ≤ 100 := fun s hs => by
  have h := (ref_left (Int.le_refl B) p.duties.length [] 0 ⟨fu, someL p p.duties.length⟩ ⟨hv, by simp, by simp⟩ hn (by simp [costP]) hl (some_good hv _ (Nat.le_refl _)) (some_at p) h0).g
  obtain ⟨j, hj, rfl⟩ := List.mem_iff_getElem.1 hs
  have := (h.f j (Nat.zero_le _) hj).2
  rwa [getD_at hj] at this
structure LogOk (p : Pl) (c : Int) (log : List Sg) : Prop where
  y : ∀ b, b ≤ c → prvB p b log = true
  n : ∀ b, c < b → prvB p b log = false
  c : 0 ≤ c ∧ c ≤ 1000000000000
  l : log.length ≤ 20000
  s : ∀ s ∈ log, s.cl.length ≤ 100 ∧ s.frm.length ≤ 100
/-- the log that Solve returns -/
theorem solve_log {p : Pl} {st : Int} (hv : validP p = true) (hst : 0 ≤ st ∧ st ≤ 100000) :
    ((solveP p st).code = 0 ∧ 0 < p.duties.length ∧ LogOk p (solveP p st).cost (solveP p st).log) ∨ ((solveP p st).log = [] ∧ ((solveP p st).code ≠ 0 ∨ p.duties.length = 0)) := by
  have hd : ∀ d ∈ p.duties, 0 ≤ minD d := fun d h => (min_bd hv d h).1
  have hspec := impP_spec (p := p) hd (posP_of hv) p.duties.length [] 0 ⟨st, ⟨false, [], 0⟩⟩ ⟨by simp, by simp⟩ (by simp [costP]) (by simp)
  have h24 := (validP_iff.1 hv).2.1
  have hok := impP_ok (min_bd hv) (wage_bdP hv) p.duties.length [] 0 ⟨st, ⟨false, [], 0⟩⟩ (by simp) (by omega) (by simp) ⟨by simp only; omega, by simp⟩
  unfold solveP
  rw [if_neg (by rw [hv]; simp; omega)]
  by_cases h1 : (impP p p.duties.length [] 0 ⟨st, ⟨false, [], 0⟩⟩).2 = 0
  · rw [if_neg (fun h => h h1)]
    have hb : (impP p p.duties.length [] 0 ⟨st, ⟨false, [], 0⟩⟩).1.bs = bestC p := hspec h1
    have ho := hok h1
    generalize impP p p.duties.length [] 0 ⟨st, ⟨false, [], 0⟩⟩ = R at *
    have hc := ho.c
    rw [hb] at hc ⊢
    cases hf : (bestC p).found with
    | false => exact .inr (by rw [if_pos rfl]; exact ⟨rfl, .inl (by simp)⟩)
    | true =>
      rw [if_neg (by simp)]
      by_cases hn : p.duties.length = 0
      · rw [if_pos hn]
        exact .inr ⟨rfl, .inr hn⟩
      · rw [if_neg hn]
        by_cases h2 : (refP p (bestC p).cost p.duties.length [] 0 ⟨R.1.fuel, someL p p.duties.length⟩).2.2 = 0
        · rw [if_neg (fun h => h h2)]
          have hlf : LfP p (bestC p).cost p.duties.length [] 0 := LfP_of (fun ro hr hw => ((fold_least (p := p) (allR p) ⟨false, [], 0⟩).2 ro hr hw).2) (by omega) p.duties.length [] 0 ⟨by simp, by simp⟩ (by simp [costP]) (by simp)
          obtain ⟨ro, g1, g2, g3⟩ := best_mem hf
          have g4 := all_mem.1 g1
          have hsl : (someL p p.duties.length).length ≤ 20000 := by unfold someL; simp; omega
          have hlen := (refP_ok p (bestC p).cost p.duties.length [] 0 ⟨R.1.fuel, someL p p.duties.length⟩ ⟨ho.f, hsl⟩ h2).l
          refine .inl ⟨rfl, by omega, fun b hb => ref_prv hb hv (by omega) hlf h2, fun b hb => ?_, hc, hlen, ref_short hv (by omega) hlf h2⟩
          have hcost : costP p ro p.duties < b := by
            rw [g3] at hb
            exact hb
          exact prv_no (ro := ro) ⟨hv, isRo_iff.2 ⟨g4.1, fun w hw => by have := g4.2 w hw; omega⟩, fun w hw => (g4.2 w hw).1, List.isEmpty_iff.1 g2, hcost⟩
        · rw [if_pos h2]
          exact .inr ⟨rfl, .inl h2⟩
  · rw [if_pos h1]
    exact .inr ⟨rfl, .inl h1⟩
set_option maxRecDepth 8000 in
set_option maxHeartbeats 8000000 in
theorem m0Refutes_all (p : Pl) (y : Int) (hz : PlZ p) (hy : -9223372036854775808 ≤ y ∧ y ≤ 9223372036854775807) : FnA Tryz.prog 4 [.agg (pcs p), I y] (B true) := by
  have c0 := m0Head_ok
  have c1 := m0Small_ok p 250 (by omega) hz
  cases hf : fineP p 250 with
  | false =>
    rw [hf] at c1
    refine fn_run (T := tab) Tryz.func4 rfl Tryz.ntmps4 rfl Tryz.results4 (fun _ => ?_)
    repeat' ((conv => whnf) <;> (first | refine zM ?_ | refine zW ?_ | intro _ | exact zF | refine Fin.pure ?_ | refine Br.tt ?_ | refine Br.ff ?_ | (refine Br.mk (fun h => ?_) (fun h => ?_) <;> (try simp only [sh] at h) <;> try first | (exfalso; omega) | exact absurd trivial h | (simp at h; done)) | refine zA ?_ | refine zN ?_ | refine zO ?_ | refine zP ?_ | refine zB ?_ | refine zL ent9 c0 ?_ | refine zG ent9 (fun h => c0) ?_ | refine zL ent12 c1 ?_ | refine zG ent12 (fun h => c1) ?_ | refine lB ?_ | refine lBA ?_ | refine zK ?_ | refine s1 ?_ | refine sA ?_ | refine zC ?_ | fail))
  | true =>
    rw [hf] at c1
    unfold fineP at hf
    simp only [Bool.and_eq_true, decide_eq_true_eq] at hf
    have hs := small_sm hf.1
    have hv := hf.2.1
    have hld : (p.duties.map duav).length = p.duties.length := by simp
    have c2 := pSolve_ok p 3000 hs posP_of (by omega)
    have hsl := solve_log (st := 3000) hv (by omega)
    generalize solveP p 3000 = r at *
    unfold solav at c2
    have hll : (r.log.map sgav).length = r.log.length := by simp
    rcases hsl with ⟨e1, e2, e3⟩ | ⟨e1, e2⟩
    · rw [e1] at c2
      have h3 := e3.c
      have h4 := e3.l
      have c3 := c0Short_ok r.log (by omega) fun s hs => by have := e3.s s hs; omega
      have hpv := fun b => c0Proves_ok p b r.log hs hv (by omega) fun s hs => by have := e3.s s hs; omega
      have c4 := m0Pick_ok y 100000 (by omega) hy
      have b4 := pick_bd (c := y) (n := 100000) (by omega)
      generalize pickP y 100000 = d at *
      have q1 := hpv r.cost
      have q2 := hpv (r.cost - d)
      have q3 := hpv (r.cost + 1 + d)
      rw [e3.y _ (Int.le_refl _)] at q1
      rw [e3.y _ (by omega)] at q2
      rw [e3.n _ (by omega)] at q3
      refine fn_run (T := tab) Tryz.func4 rfl Tryz.ntmps4 rfl Tryz.results4 (fun _ => ?_)
      repeat' ((conv => whnf) <;> (first | refine zM ?_ | refine zW ?_ | intro _ | exact zF | refine Br.tt ?_ | refine Br.ff ?_ | (refine Br.mk (fun h => ?_) (fun h => ?_) <;> (try simp only [sh] at h) <;> try first | (exfalso; omega) | exact absurd trivial h | (simp at h; done)) | refine zA ?_ | refine zN ?_ | refine zO ?_ | refine zP ?_ | refine zB ?_ | refine zL ent9 c0 ?_ | refine zG ent9 (fun h => c0) ?_ | refine zL ent12 c1 ?_ | refine zG ent12 (fun h => c1) ?_ | refine zL ent11 c2 ?_ | refine zG ent11 (fun h => c2) ?_ | refine zL ent17 c3 ?_ | refine zG ent17 (fun h => c3) ?_ | refine zL ent14 c4 ?_ | refine zG ent14 (fun h => c4) ?_ | refine zL ent18 q1 ?_ | refine zG ent18 (fun h => q1) ?_ | refine zL ent18 q2 ?_ | refine zG ent18 (fun h => q2) ?_ | refine zL ent18 q3 ?_ | refine zG ent18 (fun h => q3) ?_ | refine lB ?_ | refine lBA ?_ | refine zK ?_ | refine s1 ?_ | refine sA ?_ | refine zC ?_ | fail))
    · rw [e1] at c2 hll
      refine fn_run (T := tab) Tryz.func4 rfl Tryz.ntmps4 rfl Tryz.results4 (fun _ => ?_)
      repeat' ((conv => whnf) <;> (first | refine zM ?_ | refine zW ?_ | intro _ | exact zF | refine Br.tt ?_ | refine Br.ff ?_ | (refine Br.mk (fun h => ?_) (fun h => ?_) <;> (try simp only [sh] at h) <;> try first | (exfalso; omega) | exact absurd trivial h | (simp at h; done)) | refine zA ?_ | refine zN ?_ | refine zO ?_ | refine zP ?_ | refine zB ?_ | refine zL ent9 c0 ?_ | refine zG ent9 (fun h => c0) ?_ | refine zL ent12 c1 ?_ | refine zG ent12 (fun h => c1) ?_ | refine zL ent11 c2 ?_ | refine zG ent11 (fun h => c2) ?_ | refine lB ?_ | refine lBA ?_ | refine zK ?_ | refine s1 ?_ | refine sA ?_ | refine zC ?_ | fail))
end Go.Proofs.YtecemgicnboaaaaGreat
