/-
  Walks: package planner: Solve.
  Conditions: those of each theorem.
-/
import Derived.Test.YtecemgicnboaaaaGreatNS4
namespace Go.Proofs.YtecemgicnboaaaaGreat
open Go.E2 Go.Wage
def solav (r : Sol) : AV := .tup [.sl 1 (r.ro.map I), I r.cost, .sl 3 (r.log.map sgav), I r.code]
set_option maxRecDepth 4000 in
set_option maxHeartbeats 16000000 in
theorem pSolve_ok (p : Pl) (st : Int) (hs : Small p) (hpos : validP p = true → PosP p) (_hst : -9223372036854775808 ≤ st ∧ st ≤ 9223372036854775807) : FnA Tryz.prog 11 [.agg (pcs p), I st] (solav (solveP p st)) := by
  have hsd := hs.du
  have hld : (p.duties.map duav).length = p.duties.length := by simp
  cases hv : validP p with
  | false =>
    unfold solveP
    rw [if_pos (.inl hv)]
    have c1 := oPrep_no p hs hv
    refine fn_run (T := tab) Tryz.func11 rfl Tryz.ntmps11 rfl Tryz.results11 (fun _ => ?_)
    repeat' ((conv => whnf) <;> (first | refine zM ?_ | refine zW ?_ | intro _ | exact zF | refine Br.tt ?_ | refine Br.ff ?_ | (refine Br.mk (fun h => ?_) (fun h => ?_) <;> (try simp only [sh] at h) <;> try first | (exfalso; omega) | exact absurd trivial h | (simp at h; done)) | refine zA ?_ | refine zN ?_ | refine zO ?_ | refine zP ?_ | refine zB ?_ | refine zL ent30 c1 ?_ | refine zG ent30 (fun h => c1) ?_ | refine lB ?_ | refine lBA ?_ | refine zK ?_ | refine s1 ?_ | refine sA ?_ | refine zC ?_ | fail))
    conv => whnf
    exact .see (.tup (SbL.cons (Sb.nil (k := 1)) (SbL.cons (Sb.refl _) (SbL.cons (Sb.nil (k := 3)) (SbL.cons (Sb.refl _) SbL.nil))))) (.out [] (List.nil_sublist _) ⟨rfl, rfl⟩)
  | true =>
    have c1 := oPrep_ok p hs hv
    have h24 := (validP_iff.1 hv).2.1
    by_cases hb : st < 0 ∨ 100000 < st
    · unfold solveP
      rw [if_pos (.inr hb)]
      refine fn_run (T := tab) Tryz.func11 rfl Tryz.ntmps11 rfl Tryz.results11 (fun _ => ?_)
      repeat' ((conv => whnf) <;> (first | refine zM ?_ | refine zW ?_ | intro _ | exact zF | refine Br.tt ?_ | refine Br.ff ?_ | (refine Br.mk (fun h => ?_) (fun h => ?_) <;> (try simp only [sh] at h) <;> try first | (exfalso; omega) | exact absurd trivial h | (simp at h; done)) | refine zA ?_ | refine zN ?_ | refine zO ?_ | refine zP ?_ | refine zB ?_ | refine zL ent30 c1 ?_ | refine zG ent30 (fun h => c1) ?_ | refine lB ?_ | refine lBA ?_ | refine zK ?_ | refine s1 ?_ | refine sA ?_ | refine zC ?_ | fail))
      all_goals (conv => whnf)
      all_goals first | exact .see (.tup (SbL.cons (Sb.nil (k := 1)) (SbL.cons (Sb.refl _) (SbL.cons (Sb.nil (k := 3)) (SbL.cons (Sb.refl _) SbL.nil))))) (.out [] (List.nil_sublist _) ⟨rfl, rfl⟩) | (exfalso; omega)
    have e0 : List.replicate p.duties.length (AV.v (.int .i64 0)) = (List.replicate p.duties.length (0 : Int)).map I := by rw [List.map_replicate]
    have hz0 : (List.replicate p.duties.length (0 : Int)).length = p.duties.length := by simp
    have hnw := pNew_ok p st hs hv
    have himp := fun c0 R gs gb => pImprove_ok p hs hv p.duties.length [] 0 0 ⟨st, ⟨false, [], 0⟩⟩ (List.replicate p.duties.length 0) c0 R gs gb rfl ⟨by simp, by simp⟩ (by simp) ⟨by simp only; omega, by simp⟩ hz0 (by simp)
    have hspec := impP_spec (p := p) (fun d h => (min_bd hv d h).1) (hpos hv) p.duties.length [] 0 ⟨st, ⟨false, [], 0⟩⟩ ⟨by simp, by simp⟩ (by simp [costP]) (by simp)
    have hok := impP_ok (min_bd hv) (wage_bdP hv) p.duties.length [] 0 ⟨st, ⟨false, [], 0⟩⟩ (by simp) (by omega) (by simp) ⟨by simp only; omega, by simp⟩
    have hleast := fold_least (p := p) (comp p.workers.length p.duties.length []) ⟨false, [], 0⟩
    unfold solveP
    rw [if_neg (by rw [hv]; simp only [Bool.true_eq_false, false_or]; exact hb)]
    generalize hr1 : impP p p.duties.length [] 0 ⟨st, ⟨false, [], 0⟩⟩ = r1 at *
    refine fn_run (T := tab) Tryz.func11 rfl Tryz.ntmps11 rfl Tryz.results11 (fun _ => ?_)
    repeat' ((conv => whnf) <;> (first | (refine LK.eff (Eff.callB (first := [.pointer (some ⟨gs, 0, none⟩)]) ent32 rfl rfl (SbL.refl _) (FnL.front 1 rfl (himp _ _ _ _))) ?_ <;> rintro _ _ ⟨z2, rfl, h1, h2, rfl⟩) | (refine Kx.eff rfl (Eff.mkB (T := tab) (N := p.duties.length) rfl rfl rfl rfl rfl (congrArg (fun q : Nat => some (I (q : Int))) hld) (by omega)) (by rintro _ _ ⟨gb, rfl, rfl⟩; exact List.sublist_cons_self _ _) ?_ <;> rintro _ _ ⟨gb, rfl, rfl⟩ <;> rw [e0]) | refine Kx.nil ?_ | refine CK.anyM (T := tab) [0, 1, 2, 3, 4, 5, 6] [7] 8 9 _ (List.Sublist.refl _) (by exact Qk) ?_ | refine Ask.of (Gr.bound (xs := [.tmp 35]) (vs := [.pointer (some ⟨gs, 0, none⟩)]) rfl) ?_ | refine zM ?_ | refine zW ?_ | intro _ | exact zF | refine Br.tt ?_ | refine Br.ff ?_ | (refine Br.mk (fun h => ?_) (fun h => ?_) <;> (try simp only [sh] at h) <;> try first | (exfalso; omega) | exact absurd trivial h | (simp at h; done)) | refine zA ?_ | refine zN ?_ | refine zO ?_ | refine zP ?_ | refine zB ?_ | refine zL ent30 c1 ?_ | refine zG ent30 (fun h => c1) ?_ | (refine LK.call ent31 (hnw) rfl rfl Ql (fun _ _ hcall => ?_) <;> obtain ⟨gs, rfl, rfl⟩ := hcall) | refine lB ?_ | refine lBA ?_ | refine zK ?_ | refine s1 ?_ | refine sA ?_ | refine zC ?_ | fail))
    · conv => whnf
      rw [if_pos (by assumption)]
      exact .see (.tup (SbL.cons (Sb.nil (k := 1)) (SbL.cons (Sb.refl _) (SbL.cons (Sb.nil (k := 3)) (SbL.cons (Sb.refl _) SbL.nil))))) (.out [] (List.nil_sublist _) ⟨rfl, rfl⟩)
    · rename_i h3 h4
      conv => whnf
      rw [if_neg (fun q => q h4), if_pos (by assumption)]
      exact .see (.tup (SbL.cons (Sb.nil (k := 1)) (SbL.cons (Sb.refl _) (SbL.cons (Sb.nil (k := 3)) (SbL.cons (Sb.refl _) SbL.nil))))) (.out [] (List.nil_sublist _) ⟨rfl, rfl⟩)
    · rename_i h3 h4 h5
      conv => whnf
      rw [if_neg (fun q => q h4), if_neg (by rw [h5]; simp), if_pos (by omega)]
      exact .see (.tup (SbL.cons (Sb.nil (k := 1)) (SbL.cons (Sb.refl _) (SbL.cons (Sb.nil (k := 3)) (SbL.cons (Sb.refl _) SbL.nil))))) (.out [] (List.nil_sublist _) ⟨rfl, rfl⟩)
    rename_i h3 h4 h5
    have hok1 := hok h4
    have hlf : LfP p r1.1.bs.cost p.duties.length [] 0 := LfP_of (fun ro hr hw => by
      have := (hleast.2 ro hr hw).2
      rwa [← hspec h4] at this) (by omega) p.duties.length [] 0 ⟨by simp, by simp⟩ (by simp [costP]) (by simp)
    have hsl : (someL p p.duties.length).length ≤ 20000 := by unfold someL; simp; omega
    have hsome := fun c R => pSome_ok (c := c) p hs (impV gs) r1.1.fuel r1.1.bs gs R
    have href := fun c0 R gs gb A q cp => pRefute_ok p r1.1.bs hok1.c hs hv p.duties.length [] 0 0 ⟨r1.1.fuel, someL p p.duties.length⟩ (List.replicate p.duties.length 0) c0 R gs gb A q cp rfl ⟨by simp, by simp⟩ (by simp) ⟨hok1.f, hsl⟩ hlf hz0 (by simp)
    rw [if_neg (fun q => q h4), if_neg (by rw [h5]; simp), if_neg (by omega)]
    generalize hr2 : refP p r1.1.bs.cost p.duties.length [] 0 ⟨r1.1.fuel, someL p p.duties.length⟩ = r2 at *
    repeat' ((conv => whnf) <;> (first | (refine LK.eff (Eff.callB (first := [.pointer (some ⟨gs, 0, none⟩)]) ent34 rfl rfl (SbL.refl _) (FnL.front 2 rfl (FnL.front 2 rfl (href _ _ _ _ _ _ _)))) ?_ <;> rintro _ _ ⟨z3, A3, q3, cp3, rfl, e3, e4, rfl⟩) | (refine Kx.eff rfl (Eff.mkB (T := tab) (N := p.duties.length) rfl rfl rfl rfl rfl (congrArg (fun q : Nat => some (I (q : Int))) hld) (by omega)) (by rintro _ _ ⟨gb2, rfl, rfl⟩; exact List.sublist_cons_self _ _) ?_ <;> rintro _ _ ⟨gb2, rfl, rfl⟩ <;> rw [e0]) | refine Kx.nil ?_ | refine CK.anyM (T := tab) [0, 1, 2, 3, 4, 5, 6] [7] 8 9 _ (List.Sublist.refl _) (by exact Qk) ?_ | refine Ask.of (Gr.bound (xs := [.tmp 66]) (vs := [.pointer (some ⟨gs, 0, none⟩)]) rfl) ?_ | (refine LK.callL ent33 (hsome _ _) rfl rfl Ql (fun _ _ hcall => ?_) <;> obtain ⟨A1, q1, cp1, rfl, rfl⟩ := hcall) | refine zM ?_ | refine zW ?_ | intro _ | exact zF | refine Br.tt ?_ | refine Br.ff ?_ | (refine Br.mk (fun h => ?_) (fun h => ?_) <;> (try simp only [sh] at h) <;> try first | (exfalso; omega) | exact absurd trivial h | (simp at h; done)) | refine zA ?_ | refine zN ?_ | refine zO ?_ | refine zP ?_ | refine zB ?_ | refine lB ?_ | refine lBA ?_ | refine zK ?_ | refine s1 ?_ | refine sA ?_ | refine zC ?_ | fail))
    · conv => whnf
      rw [if_pos (by assumption)]
      exact .see (.tup (SbL.cons (Sb.nil (k := 1)) (SbL.cons (Sb.refl _) (SbL.cons (Sb.nil (k := 3)) (SbL.cons (Sb.refl _) SbL.nil))))) (.out [] (List.nil_sublist _) ⟨rfl, rfl⟩)
    · conv => whnf
      rw [if_neg (fun q => q (by assumption))]
      exact .frzR 0 rfl (.see (.tup (SbL.cons (Sb.refl _) (SbL.cons (Sb.refl _) (SbL.cons (Sb.row 0 rfl) (SbL.cons (Sb.refl _) SbL.nil))))) (.out [] (List.nil_sublist _) ⟨rfl, rfl⟩))
end Go.Proofs.YtecemgicnboaaaaGreat
