/-
  Walks: law 19: DomainMatchesReference; some, denial, holds.
  Conditions: those of each theorem.
-/
import Derived.Test.YtjfnkmlnbaianaaGreatDQ
import Derived.Test.YtjfnkmlnbaianaaGreatDP
namespace Go.Proofs.YtjfnkmlnbaianaaGreat
open Go.E2 Go.Wage
theorem g9Base_ok (p : Pl) (hs : Small p) (hn : p.duties.length ≤ 100) (hm : p.workers.length ≤ 100) : FnA Tryz.prog 17 [.agg (pcs p)] (.sl 3 ((baseP p).map sgav)) := by
 by_cases hv : validP p = true
 ·refine FnE.turn (g9Base_raw p hs hv hn hm) ?_
  rintro _ _ ⟨v, rfl, rfl⟩
  refine ⟨_, [], ⟨rfl, rfl⟩, fun c H w h0 => ?_⟩
  obtain ⟨H1, l1, s1⟩ := h0.freezeRow (i := 0) rfl
  exact ⟨H1, l1, s1.sub (List.nil_sublist _), fun v hr => Sb.rel s1 (.row 0 rfl) hr⟩
 ·have c1 := v8Valid_ok p hs
  rw [Bool.eq_false_iff.2 hv] at c1
  have e : baseP p = [] := by rw [baseP, if_neg hv]
  rw [e]
  refine FnE.turn (Φ := fun r E => r = .v (.slice none 0 0) ∧ E = []) ?_ ?_
  ·refine fn_run (T := tab) Tryz.func17 rfl Tryz.ntmps17 rfl Tryz.results17 (fun _ => ?_)
   repeat' ((conv => whnf) <;> (first | refine zM ?_ | refine zW ?_ | intro _ | exact zF | refine Br.tt ?_ | refine Br.ff ?_ | (refine Br.mk (fun h => ?_) (fun h => ?_) <;> (try simp only [sh] at h) <;> try first | (exfalso; omega) | exact absurd trivial h | (simp at h; done)) | refine zA ?_ | refine zN ?_ | refine zO ?_ | refine zP ?_ | refine zB ?_ | refine zL ent24 c1 ?_ | refine zG ent24 (fun h => c1) ?_ | refine lB ?_ | refine lBA ?_ | refine zK ?_ | refine s1 ?_ | refine sA ?_ | refine zC ?_ | fail))
   all_goals (conv => whnf)
   all_goals exact .out _ (by exact List.nil_sublist _) ⟨rfl, rfl⟩
  ·rintro _ _ ⟨rfl, rfl⟩
   exact ⟨_, [], ⟨rfl, rfl⟩, fun c H w h0 => ⟨H, Cells.le_refl _, h0, fun v hr => Sb.rel h0 .nil hr⟩⟩
set_option maxRecDepth 4000 in
set_option maxHeartbeats 8000000 in
theorem nMatches_all (p : Pl) (cs : List (List Lt)) (given : List Lt) (hz : PlZ p) (hf : fewN cs given ≤ 2000000) : FnA Tryz.prog 3 [.agg (pcs p), .sl 1 (clO cs), .sl 3 (given.map ltav)] (B true) := by
 have c0 := nHead_ok
 have c1 := nsmall_ok p hz
 have c2 := nfew_ok cs given hf
 by_cases hs : smallV p [] 7 = true
 ·rw [hs] at c1
  obtain ⟨sm, h7, h20⟩ := small7 hs
  by_cases hw : fewN cs given ≤ 300
  ·rw [decide_eq_true hw] at c2
   obtain ⟨f1, f2, f3⟩ := few_parts hw
   have k1 := dmUnit_ok cs given (by omega) (fun c hc => by have := f3 c hc; omega) (by omega)
   have k2 := g9Unit_ok cs given (by omega) (fun c hc => by have := f3 c hc; omega) (by omega)
   have k3 := dmBase_ok p sm (by omega) (by omega)
   have k4 := g9Base_ok p sm (by omega) (by omega)
   have hbl := base_len p h7 h20
   have k5 := g9SameSteps_ok (baseP p) (by omega) (fun s h => by have := base_part h; rw [this.2]; simp; omega)
   have hul := unit_len cs given
   have k6 := g9Same_ok (unitU cs given).1 (unitU cs given).1 (by omega) (by omega)
   rw [decide_eq_true rfl] at k6
   refine fn_run (T := tab) Tryz.func3 rfl Tryz.ntmps3 rfl Tryz.results3 (fun _ => ?_)
   repeat' ((conv => whnf) <;> (first | refine zM ?_ | refine zW ?_ | intro _ | exact zF | refine Fin.pure ?_ | refine Br.tt ?_ | refine Br.ff ?_ | (refine Br.mk (fun h => ?_) (fun h => ?_) <;> (try simp only [sh] at h) <;> try first | (exfalso; omega) | exact absurd trivial h | (simp at h; done)) | refine zA ?_ | refine zN ?_ | refine zO ?_ | refine zP ?_ | refine zB ?_ | refine zL ent10 c0 ?_ | refine zG ent10 (fun h => c0) ?_ | refine zL ent11 c1 ?_ | refine zG ent11 (fun h => c1) ?_ | refine zL ent12 c2 ?_ | refine zG ent12 (fun h => c2) ?_ | refine zL ent13 k1 ?_ | refine zG ent13 (fun h => k1) ?_ | refine zL ent14 k2 ?_ | refine zG ent14 (fun h => k2) ?_ | refine zL ent16 k3 ?_ | refine zG ent16 (fun h => k3) ?_ | refine zL ent17 k4 ?_ | refine zG ent17 (fun h => k4) ?_ | refine zL ent15 k5 ?_ | refine zG ent15 (fun h => k5) ?_ | refine zL ent18 k6 ?_ | refine zG ent18 (fun h => k6) ?_ | refine lB ?_ | refine lBA ?_ | refine zK ?_ | refine s1 ?_ | refine sA ?_ | refine zC ?_ | exact True.intro | fail))
   exact congrArg B (by simp)
  ·rw [decide_eq_false hw] at c2
   refine fn_run (T := tab) Tryz.func3 rfl Tryz.ntmps3 rfl Tryz.results3 (fun _ => ?_)
   repeat' ((conv => whnf) <;> (first | refine zM ?_ | refine zW ?_ | intro _ | exact zF | refine Fin.pure ?_ | refine Br.tt ?_ | refine Br.ff ?_ | (refine Br.mk (fun h => ?_) (fun h => ?_) <;> (try simp only [sh] at h) <;> try first | (exfalso; omega) | exact absurd trivial h | (simp at h; done)) | refine zA ?_ | refine zN ?_ | refine zO ?_ | refine zP ?_ | refine zB ?_ | refine zL ent10 c0 ?_ | refine zG ent10 (fun h => c0) ?_ | refine zL ent11 c1 ?_ | refine zG ent11 (fun h => c1) ?_ | refine zL ent12 c2 ?_ | refine zG ent12 (fun h => c2) ?_ | refine lB ?_ | refine lBA ?_ | refine zK ?_ | refine s1 ?_ | refine sA ?_ | refine zC ?_ | exact True.intro | fail))
 ·rw [Bool.eq_false_iff.2 hs] at c1
  refine fn_run (T := tab) Tryz.func3 rfl Tryz.ntmps3 rfl Tryz.results3 (fun _ => ?_)
  repeat' ((conv => whnf) <;> (first | refine zM ?_ | refine zW ?_ | intro _ | exact zF | refine Fin.pure ?_ | refine Br.tt ?_ | refine Br.ff ?_ | (refine Br.mk (fun h => ?_) (fun h => ?_) <;> (try simp only [sh] at h) <;> try first | (exfalso; omega) | exact absurd trivial h | (simp at h; done)) | refine zA ?_ | refine zN ?_ | refine zO ?_ | refine zP ?_ | refine zB ?_ | refine zL ent10 c0 ?_ | refine zG ent10 (fun h => c0) ?_ | refine zL ent11 c1 ?_ | refine zG ent11 (fun h => c1) ?_ | refine zL ent12 c2 ?_ | refine zG ent12 (fun h => c2) ?_ | refine lB ?_ | refine lBA ?_ | refine zK ?_ | refine s1 ?_ | refine sA ?_ | refine zC ?_ | exact True.intro | fail))
end Go.Proofs.YtjfnkmlnbaianaaGreat
