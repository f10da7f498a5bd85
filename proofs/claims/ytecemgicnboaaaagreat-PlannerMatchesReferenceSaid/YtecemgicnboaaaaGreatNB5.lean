/-
  Walks: law 20: example, head.
  Conditions: those of each theorem.
-/
import Derived.Test.YtecemgicnboaaaaGreatNB4
import Derived.Test.YtecemgicnboaaaaGreatNS5
namespace Go.Proofs.YtecemgicnboaaaaGreat
open Go.E2 Go.Wage
def wW (w : Int) : Wk := ⟨ByteArray.empty, 0, false, w, []⟩
def exQ (ws : List Wk) : Pl := { zone := { name := ByteArray.empty, base := 0, chs := [] }, duties := [⟨1440, 1500, 0⟩, ⟨1470, 1530, 0⟩], workers := ws, lim := { rest := 0, week := 20000, night := (0, 0), minor := 1500 } }
def exN : Pl := { zone := { name := ByteArray.empty, base := 0, chs := [] }, duties := [], workers := [], lim := { rest := 0, week := 20000, night := (0, 0), minor := 0 } }
def w3 : List Wk := [wW 100, wW 50, wW 50]
def solB (r : Sol) (ro : List Int) (c : Int) (k : Int) (b : Bool) : Bool := r.ro == ro && r.cost == c && r.code == k && ((r.log.length == 0) == b)
theorem q1 : solB (solveP (exQ w3) 100000) [1, 2] 6000 0 false = true := by decide +kernel
theorem q2 : solB (solveP (exQ (w3.take 2)) 100000) [0, 1] 9000 0 false = true := by decide +kernel
theorem q3 : solB (solveP (exQ (w3.take 1)) 100000) [] 0 171 true = true := by decide +kernel
theorem q4 : solB (solveP (exQ w3) 0) [] 0 201 true = true := by decide +kernel
theorem q5 : solB (solveP (exQ w3) (-1)) [] 0 1 true = true := by decide +kernel
theorem q6 : solB (solveP exN 10) [] 0 0 true = true := by decide +kernel
theorem solB_out {r : Sol} {ro : List Int} {c k : Int} {b : Bool} (h : solB r ro c k b = true) : ∃ lg, r = ⟨ro, c, lg, k⟩ ∧ (lg.length == 0) = b := by
  unfold solB at h
  simp only [Bool.and_eq_true, beq_iff_eq] at h
  obtain ⟨⟨⟨h1, h2⟩, h3⟩, h4⟩ := h
  cases r
  simp only at h1 h2 h3 h4
  subst h1 h2 h3
  exact ⟨_, rfl, h4⟩
theorem m0Ex_ok (ws : List Wk) : FnA Tryz.prog 25 [.sl 5 (ws.map wkav)] (.agg (pcs (exQ ws))) := by
  refine fn_run (T := tab) Tryz.func25 rfl Tryz.ntmps25 rfl Tryz.results25 (fun _ => ?_)
  repeat' ((conv => whnf) <;> (first | refine zM ?_ | refine zW ?_ | intro _ | exact zF | refine Br.tt ?_ | refine Br.ff ?_ | (refine Br.mk (fun h => ?_) (fun h => ?_) <;> (try simp only [sh] at h) <;> try first | (exfalso; omega) | exact absurd trivial h | (simp at h; done)) | refine zA ?_ | refine zN ?_ | refine zO ?_ | refine zP ?_ | refine zB ?_ | refine lB ?_ | refine lBA ?_ | refine rA ?_ | refine r1 ?_ | refine zK ?_ | refine s1 ?_ | refine sA ?_ | refine LK.gr (Gr.bslV rfl rfl rfl rfl) ?_ | refine Ask.of (Gr.bslV rfl rfl rfl rfl) ?_ | refine zC ?_ | refine zD ?_ | fail))
  conv => whnf
  exact Fin.seeP (Sb.agg (.cons (.refl _) (.cons (.refl _) (.cons (Sb.nil (k := 2)) (SbL.refl _)))))
theorem ex_small (ws : List Wk) (h : ws.length ≤ 3) (ha : ∀ w ∈ ws, w.away.length ≤ 1000) : Small (exQ ws) := ⟨by simp [exQ], by simp [exQ], Nat.le_trans h (by decide), ha⟩
set_option maxRecDepth 8000 in
set_option maxHeartbeats 8000000 in
theorem m0Head_ok : FnA Tryz.prog 9 [] (B true) := by
  obtain ⟨l1, e1, g1⟩ := solB_out q1
  obtain ⟨l2, e2, g2⟩ := solB_out q2
  obtain ⟨l3, e3, g3⟩ := solB_out q3
  obtain ⟨l4, e4, g4⟩ := solB_out q4
  obtain ⟨l5, e5, g5⟩ := solB_out q5
  obtain ⟨l6, e6, g6⟩ := solB_out q6
  have aw : ∀ w ∈ w3, w.away.length ≤ 1000 := by decide
  have s3 := ex_small w3 (by decide) aw
  have k1 := pSolve_ok (exQ w3) 100000 s3 posP_of (by omega)
  have k2 := pSolve_ok (exQ (w3.take 2)) 100000 (ex_small _ (by decide) (by decide)) posP_of (by omega)
  have k3 := pSolve_ok (exQ (w3.take 1)) 100000 (ex_small _ (by decide) (by decide)) posP_of (by omega)
  have k4 := pSolve_ok (exQ w3) 0 s3 posP_of (by omega)
  have k5 := pSolve_ok (exQ w3) (-1) s3 posP_of (by omega)
  have k6 := pSolve_ok exN 10 ⟨by decide, by decide, by decide, by decide⟩ posP_of (by omega)
  rw [e1] at k1
  rw [e2] at k2
  rw [e3] at k3
  rw [e4] at k4
  rw [e5] at k5
  rw [e6] at k6
  have b3 := m0Ex_ok w3
  have b2 := m0Ex_ok (w3.take 2)
  have b1 := m0Ex_ok (w3.take 1)
  have t1 := c0Same_ok [1, 2] [1, 2] (by decide)
  have t2 := c0Same_ok [0, 1] [0, 1] (by decide)
  rw [decide_eq_true rfl] at t1 t2
  have h1 : 0 < (l1.map sgav).length := by rw [List.length_map]; simp at g1; exact List.length_pos_iff.2 g1
  have h1' : 0 < l1.length := by rwa [List.length_map] at h1
  have h6' : l6.length = 0 := by simpa using g6
  have h6 : (l6.map sgav).length = 0 := by rw [List.length_map]; simpa using g6
  refine fn_run (T := tab) Tryz.func9 rfl Tryz.ntmps9 rfl Tryz.results9 (fun _ => ?_)
  repeat' ((conv => whnf) <;> (first | (refine LK.see 27 rfl (Sb.agg (.cons (.refl _) (.cons (.refl _) (.cons (.refl _) (.cons (.refl _) (.cons (Sb.nil (k := 2)) .nil)))))) ?_ <;> refine LK.see 28 rfl (Sb.agg (.cons (.refl _) (.cons (.refl _) (.cons (.refl _) (.cons (.refl _) (.cons (Sb.nil (k := 2)) .nil)))))) ?_ <;> refine LK.see 29 rfl (Sb.agg (.cons (.refl _) (.cons (.refl _) (.cons (.refl _) (.cons (.refl _) (.cons (Sb.nil (k := 2)) .nil)))))) ?_ <;> refine LK.gr (Gr.bslV rfl rfl rfl rfl) ?_) | refine zM ?_ (fun _ => by first | (simp; done) | (simp; omega)) | refine zM ?_ | refine zW ?_ | intro _ | exact zF | refine Fin.pure ?_ | refine Br.tt ?_ | refine Br.ff ?_ | (refine Br.mk (fun h => ?_) (fun h => ?_) <;> (try simp only [sh] at h) <;> try first | (exfalso; omega) | exact absurd trivial h | (simp at h; done)) | refine zA ?_ | refine zN ?_ | refine zO ?_ | refine zP ?_ | refine zB ?_ | refine zL ent25 b3 ?_ | refine zG ent25 (fun h => b3) ?_ | refine zL ent25 b2 ?_ | refine zG ent25 (fun h => b2) ?_ | refine zL ent25 b1 ?_ | refine zG ent25 (fun h => b1) ?_ | refine zL ent11 k1 ?_ | refine zG ent11 (fun h => k1) ?_ | refine zL ent11 k2 ?_ | refine zG ent11 (fun h => k2) ?_ | refine zL ent11 k3 ?_ | refine zG ent11 (fun h => k3) ?_ | refine zL ent11 k4 ?_ | refine zG ent11 (fun h => k4) ?_ | refine zL ent11 k5 ?_ | refine zG ent11 (fun h => k5) ?_ | refine zL ent11 k6 ?_ | refine zG ent11 (fun h => k6) ?_ | refine zL ent16 t1 ?_ | refine zG ent16 (fun h => t1) ?_ | refine zL ent16 t2 ?_ | refine zG ent16 (fun h => t2) ?_ | refine lB ?_ | refine lBA ?_ | refine rA ?_ | refine r1 ?_ | refine zK ?_ | refine s1 ?_ | refine sA ?_ | refine LK.gr (Gr.bslV rfl rfl rfl rfl) ?_ | refine Ask.of (Gr.bslV rfl rfl rfl rfl) ?_ | refine zC ?_ | refine zD ?_ | fail))
  refine congrArg B ?_
  simp [h6']
  omega
end Go.Proofs.YtecemgicnboaaaaGreat
