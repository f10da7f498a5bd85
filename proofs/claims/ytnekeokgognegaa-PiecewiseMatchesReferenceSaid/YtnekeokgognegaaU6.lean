/-
  Walks: the head of the laws.
  Conditions: those of each theorem.
-/
import Derived.Test.YtnekeokgognegaaU5
namespace Go.Proofs.Ytnekeokgognegaa
open Go.E2 Go.Wage
set_option maxRecDepth 4000 in
set_option maxHeartbeats 8000000 in
theorem qHead_ok : FnA Try.prog 9 [] (B true) := by
  have vf : validB 2 hf = true := by decide
  have vg : validB 2 hg = true := by decide
  have c1 : FnA Try.prog 22 [fav 2 hf, I 11] (.tup [I 14, I 2, I 0]) := by
    have h := pEval_ok 2 11 hf (by decide)
    rw [show evalR 2 hf 11 = (14, 2, 0) by decide] at h
    exact h
  have c2 : FnA Try.prog 22 [fav 2 hf, I (-1)] (.tup [I 0, I 0, I 1]) := by
    have h := pEval_ok 2 (-1) hf (by decide)
    rw [show evalR 2 hf (-1) = (0, 0, 1) by decide] at h
    exact h
  have c3 : FnA Try.prog 24 [fav 2 hf, I 3, I 0] (.tup [I 1, I 0]) := by
    have h := round_ok 2 3 0 hf (by decide)
    rw [show roundR 2 hf 3 0 = (1, 0) by decide] at h
    exact h
  have c4 : FnA Try.prog 24 [fav 2 hf, I 3, I 1] (.tup [I 2, I 0]) := by
    have h := round_ok 2 3 1 hf (by decide)
    rw [show roundR 2 hf 3 1 = (2, 0) by decide] at h
    exact h
  have c5 : FnA Try.prog 24 [fav 2 hf, I 1, I 2] (.tup [I 0, I 0]) := by
    have h := round_ok 2 1 2 hf (by decide)
    rw [show roundR 2 hf 1 2 = (0, 0) by decide] at h
    exact h
  have c6 : FnA Try.prog 11 [fav 2 hf, fav 2 hg] (.tup [fav 2 [⟨0, 12, 1⟩, ⟨10, 22, 4⟩], I 0]) := by
    have h := pAdd_ok 2 hf hg vf vg
    rw [h_sum] at h
    exact h
  have c7 : FnA Try.prog 13 [fav 2 hf, fav 2 hg] (.tup [fav 2 [⟨0, 0, 1⟩, ⟨10, 10, 4⟩, ⟨11, 12, 0⟩], I 0]) := by
    have h := pLeast_ok 2 hf hg vf vg
    rw [h_least] at h
    exact h
  have c8 : FnA Try.prog 15 [fav 2 hf, I 2, I 5] (.tup [.sl 2 [spav (4, 11)], I 0]) := by
    have h := pWhere_ok 2 2 5 hf vf (by omega) (by omega)
    rw [h_where] at h
    exact h
  have d1 : FnA Try.prog 19 [.sl 2 [spav (4, 11)], .sl 2 [spav (4, 11)]] (B true) := by
    have h := r4Same_ok [(4, 11)] [(4, 11)] (by decide) (by decide)
    rw [decide_eq_true rfl] at h
    exact h
  have d2 : FnA Try.prog 20 [fav 2 hf] (B true) := by
    have h := valid_ok 2 hf (by decide)
    rw [vf] at h
    exact h
  have d3 : FnA Try.prog 20 [fav 0 []] (B false) := by
    have h := valid_ok 0 [] (by decide)
    rw [show validB 0 [] = false by decide] at h
    exact h
  have d4 : FnA Try.prog 18 [fav 2 [⟨0, 12, 1⟩, ⟨10, 22, 4⟩], fav 2 [⟨0, 12, 1⟩, ⟨10, 22, 4⟩]] (B true) := by
    have h := r5Same_ok 2 2 [⟨0, 12, 1⟩, ⟨10, 22, 4⟩] [⟨0, 12, 1⟩, ⟨10, 22, 4⟩] (by decide) (by decide)
    rw [decide_eq_true ⟨rfl, rfl⟩] at h
    exact h
  have d5 : FnA Try.prog 18 [fav 2 [⟨0, 0, 1⟩, ⟨10, 10, 4⟩, ⟨11, 12, 0⟩], fav 2 [⟨0, 0, 1⟩, ⟨10, 10, 4⟩, ⟨11, 12, 0⟩]] (B true) := by
    have h := r5Same_ok 2 2 [⟨0, 0, 1⟩, ⟨10, 10, 4⟩, ⟨11, 12, 0⟩] [⟨0, 0, 1⟩, ⟨10, 10, 4⟩, ⟨11, 12, 0⟩] (by decide) (by decide)
    rw [decide_eq_true ⟨rfl, rfl⟩] at h
    exact h
  refine fn_run (T := tab) Try.func9 rfl Try.ntmps9 rfl Try.results9 (fun _ => ?_)
  repeat' ((conv => whnf) <;> (first | refine zM ?_ | refine zW ?_ | intro _ | exact zF | refine Br.tt ?_ | refine Br.ff ?_ | (refine Br.mk (fun h => ?_) (fun h => ?_) <;> (try simp only [sh] at h) <;> try first | (exfalso; omega) | exact absurd trivial h | (simp at h; done)) | refine zA ?_ | refine zN ?_ | refine zO ?_ | refine zP ?_ | refine zB ?_ | refine zL ent22 c1 ?_ | refine zG ent22 (fun h => c1) ?_ | refine zL ent22 c2 ?_ | refine zG ent22 (fun h => c2) ?_ | refine zL ent24 c3 ?_ | refine zG ent24 (fun h => c3) ?_ | refine zL ent24 c4 ?_ | refine zG ent24 (fun h => c4) ?_ | refine zL ent24 c5 ?_ | refine zG ent24 (fun h => c5) ?_ | refine zL ent11 c6 ?_ | refine zG ent11 (fun h => c6) ?_ | refine zL ent13 c7 ?_ | refine zG ent13 (fun h => c7) ?_ | refine zL ent15 c8 ?_ | refine zG ent15 (fun h => c8) ?_ | refine zL ent19 d1 ?_ | refine zG ent19 (fun h => d1) ?_ | refine zL ent20 d2 ?_ | refine zG ent20 (fun h => d2) ?_ | refine zL ent20 d3 ?_ | refine zG ent20 (fun h => d3) ?_ | refine zL ent18 d4 ?_ | refine zG ent18 (fun h => d4) ?_ | refine zL ent18 d5 ?_ | refine zG ent18 (fun h => d5) ?_ | refine lB ?_ | refine lBA ?_ | refine zK ?_ | refine s1 ?_ | refine sA ?_ | refine pS ?_ | refine LK.gr (Gr.bslV rfl rfl rfl rfl) ?_ | refine Ask.of (Gr.bslV rfl rfl rfl rfl) ?_ | refine zC ?_ | refine zD ?_ | fail))
end Go.Proofs.Ytnekeokgognegaa
