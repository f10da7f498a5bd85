/-
  Law 20: PlannerMatchesReference.
  Conditions: those of each theorem.
-/
import Derived.Test.YtecemgicnboaaaaGreatNB5
import Derived.Test.YtecemgicnboaaaaGreatNQ1
namespace Go.Proofs.YtecemgicnboaaaaGreat
open Go.E2 Go.Wage
theorem prfP_bd (p : Pl) {m : Nat} {f : List Int} {lim : Int} (h : 0 ≤ lim) : 0 ≤ prfP p m f lim ∧ prfP p m f lim ≤ lim + 1 := by
  rw [prfP_min p m f lim h]
  omega
theorem prf_at {p : Pl} {F : Nat → Int → Int} {lim n : Int} {w : Nat} (hw : w < p.workers.length) (hn : n ≤ lim) : prfW F lim (p.workers.length - w) w n = prfW F lim (p.workers.length - (w + 1)) (w + 1) (n + F w (lim - n)) := by
  rw [show p.workers.length - w = (p.workers.length - (w + 1)) + 1 by omega, prfW, if_pos hn]
theorem prf_end {p : Pl} {F : Nat → Int → Int} {lim n : Int} {w : Nat} (h : p.workers.length ≤ w ∨ lim < n) : prfW F lim (p.workers.length - w) w n = n := by
  cases hk : p.workers.length - w with
  | zero => rfl
  | succ k => rw [prfW, if_neg (by omega)]
set_option maxRecDepth 4000 in
set_option maxHeartbeats 16000000 in
theorem c0pref_ok (p : Pl) (hs : Small p) (hv : validP p = true) : ∀ (m : Nat) (f : List Int) (lim : Int), f.length + m = p.duties.length → (∀ w ∈ f, 0 ≤ w ∧ w < p.workers.length) → 0 ≤ lim ∧ lim ≤ 3000 → FnA Tryz.prog 37 [.agg (pcs p), .sl 1 (f.map I), I lim] (I (prfP p m f lim))
  | m, f, lim, hl, hw, hm => by
    have hsd := hs.du
    have hsw := hs.wk
    have hld : (p.duties.map duav).length = p.duties.length := by simp
    have hlw : (p.workers.map wkav).length = p.workers.length := by simp
    have hlf : (f.map I).length = f.length := by simp
    have hri : isRo p (partR f m) = true := by
      refine isRo_iff.2 ⟨by unfold partR; simp; omega, fun w hx => ?_⟩
      unfold partR at hx
      rcases List.mem_append.1 hx with hx | hx
      · have := hw w hx; omega
      · rw [List.eq_of_mem_replicate hx]; omega
    have hok : okRo p (partR f m) = true := by unfold okRo; rw [hv, hri]; rfl
    have hprl : (partR f m).length = p.duties.length := (isRo_iff.1 hri).1
    have cb := v8Bad_ok p (partR f m) hs (by omega)
    rw [if_pos hok, if_pos hok] at cb
    have hbl := badP_le hv hprl
    have hlb : ((badP p (partR f m)).map viav).length = (badP p (partR f m)).length := by simp
    refine fn_run (T := tab) Tryz.func37 rfl Tryz.ntmps37 rfl Tryz.results37 (fun _ => ?_)
    repeat' ((conv => whnf) <;> (first | (refine LK.nilrow 3 1 ?_ <;> refine pS ?_) | refine zM ?_ | refine zW ?_ | intro _ | exact zF | refine Br.tt ?_ | refine Br.ff ?_ | (refine Br.mk (fun h => ?_) (fun h => ?_) <;> (try simp only [sh] at h) <;> try first | (exfalso; omega) | exact absurd trivial h | (simp at h; done)) | refine zA ?_ | refine zN ?_ | refine zO ?_ | refine zP ?_ | refine zB ?_ | refine lB ?_ | refine lBA ?_ | refine zK ?_ | refine s1 ?_ | refine sA ?_ | refine pS ?_ | refine LK.gr (Gr.bslV rfl rfl rfl rfl) ?_ | refine Ask.of (Gr.bslV rfl rfl rfl rfl) ?_ | refine zC ?_ | refine zD ?_ | fail))
    rename_i bp A q cp
    (conv => whnf); refine CK.loopK [7, 16, 17, 18, 19, 20, 21, 22, 23, 24] (σ := Nat × Option Addr × Nat × Nat) (fun s => s.1 ≤ m) (fun ⟨_, A, q, cp⟩ => [(7, .v (.slice A q cp))]) (fun ⟨j, A, q, cp⟩ => [.row (.slice A q cp) 3 1 0 false ((partR f j).map I)]) [.blk bp 32 false (pcs p)] (fun s => m - s.1) (0, A, q, cp) (Nat.zero_le _) Qy (by
      dsimp only
      rw [show partR f 0 = f by unfold partR; simp]
      exact Qs) ?_
    conv => whnf
    rintro ⟨j, A, q, cp⟩ j1
    simp only at j1
    dsimp only
    have hpl0 : (partR f j).length = f.length + j := by unfold partR; simp
    have hpl : ((partR f j).map I).length = f.length + j := by rw [List.length_map]; exact hpl0
    by_cases hj : j < m
    · repeat' ((conv => whnf) <;> (first | refine nR (T := tab) ?_ | refine zM ?_ | refine zW ?_ | intro _ | exact zF | refine Br.tt ?_ | refine Br.ff ?_ | (refine Br.mk (fun h => ?_) (fun h => ?_) <;> (try simp only [sh] at h) <;> try first | (exfalso; omega) | exact absurd trivial h | (simp at h; done)) | refine zA ?_ | refine zN ?_ | refine zO ?_ | refine zP ?_ | refine zB ?_ | refine lB ?_ | refine lBA ?_ | refine zK ?_ | refine s1 ?_ | refine sA ?_ | refine pS ?_ | refine LK.gr (Gr.bslV rfl rfl rfl rfl) ?_ | refine Ask.of (Gr.bslV rfl rfl rfl rfl) ?_ | refine zC ?_ | refine zD ?_ | fail))
      rename_i A2 q2 cp2
      (conv => whnf); (refine Nxt.of ((j + 1, A2, q2, cp2)) [7, 16, 17, 18, 19, 20, 21, 22, 23, 24] Qr Qr Qr ?_ ?_ Qy ?_ <;> (try dsimp only) <;> (try omega))
      rw [show (partR f (j + 1)).map I = (partR f j).map I ++ [I (-1)] by unfold partR; rw [List.replicate_succ', ← List.append_assoc, List.map_append]; rfl]
      exact Qs
    obtain rfl : m = j := by omega
    repeat' ((conv => whnf) <;> (first | (refine LK.frzR 0 rfl ?_ <;> refine LK.callA ent42 cb rfl rfl Ql ?_) | refine nR (T := tab) ?_ | refine zM ?_ | refine zW ?_ | intro _ | exact zF | refine Br.tt ?_ | refine Br.ff ?_ | (refine Br.mk (fun h => ?_) (fun h => ?_) <;> (try simp only [sh] at h) <;> try first | (exfalso; omega) | exact absurd trivial h | (simp at h; done)) | refine zA ?_ | refine zN ?_ | refine zO ?_ | refine zP ?_ | refine zB ?_ | refine lB ?_ | refine lBA ?_ | refine zK ?_ | refine s1 ?_ | refine sA ?_ | refine pS ?_ | refine LK.gr (Gr.bslV rfl rfl rfl rfl) ?_ | refine Ask.of (Gr.bslV rfl rfl rfl rfl) ?_ | refine zC ?_ | refine zD ?_ | fail))
    · conv => whnf
      have hne : badP p (partR f m) ≠ [] := fun e => by
        have h3 : (badP p (partR f m)).length = 0 := by rw [e]; rfl
        omega
      refine Fin.pure (congrArg I ?_)
      cases m <;> rw [prfP, if_neg hne]
    have hnil : badP p (partR f m) = [] := List.eq_nil_of_length_eq_zero (by rename_i h; omega)
    repeat' ((conv => whnf) <;> (first | refine zM ?_ | refine zW ?_ | intro _ | exact zF | refine Br.tt ?_ | refine Br.ff ?_ | (refine Br.mk (fun h => ?_) (fun h => ?_) <;> (try simp only [sh] at h) <;> try first | (exfalso; omega) | exact absurd trivial h | (simp at h; done)) | refine zA ?_ | refine zN ?_ | refine zO ?_ | refine zP ?_ | refine zB ?_ | refine lB ?_ | refine lBA ?_ | refine zK ?_ | refine s1 ?_ | refine sA ?_ | refine pS ?_ | refine LK.gr (Gr.bslV rfl rfl rfl rfl) ?_ | refine Ask.of (Gr.bslV rfl rfl rfl rfl) ?_ | refine zC ?_ | refine zD ?_ | fail))
    (conv => whnf); refine CK.loopK [10, 11, 12, 38, 39, 40, 41, 42, 43, 44, 45, 46, 47, 48, 49, 50, 51, 52, 53, 54, 55, 56, 57, 58, 59, 60, 61, 62, 63, 64, 65, 66, 67, 68, 69, 70, 71] (σ := Nat × Int) (fun s => s.1 ≤ p.workers.length ∧ 1 ≤ s.2 ∧ s.2 ≤ lim + 1 ∧ (m = 0 → s.2 = 1) ∧ ∀ k, m = k + 1 → prfW (fun (w : Nat) lim => prfP p k (f ++ [(w : Int)]) lim) lim p.workers.length 0 1 = prfW (fun (w : Nat) lim => prfP p k (f ++ [(w : Int)]) lim) lim (p.workers.length - s.1) s.1 s.2) (fun ⟨w, n⟩ => [(11, I w), (10, I n)]) (fun _ => []) _ (fun s => p.workers.length - s.1) (0, 1) ⟨Nat.zero_le _, by simp, by simp only; omega, fun _ => rfl, fun _ _ => rfl⟩ Qy (List.Sublist.refl _) ?_
    conv => whnf
    rintro ⟨w, n⟩ ⟨d1, d2, d3, d4, d5⟩
    simp only at d1 d2 d3 d4 d5
    dsimp only
    by_cases hgo : w < p.workers.length ∧ 0 < m ∧ n ≤ lim
    · obtain ⟨g1, g2, g3⟩ := hgo
      obtain ⟨k, rfl⟩ : ∃ k, m = k + 1 := ⟨m - 1, by omega⟩
      have ih := c0pref_ok p hs hv k (f ++ [(w : Int)]) (lim - n) (by simp; omega) (fun x hx => by
        rcases List.mem_append.1 hx with hx | hx
        · exact hw x hx
        · rw [List.mem_singleton] at hx; omega) (by omega)
      have hb := prfP_bd p (m := k) (f := f ++ [(w : Int)]) (lim := lim - n) (by omega)
      have d6 := d5 k rfl
      rw [prf_at g1 g3] at d6
      rw [List.map_append] at ih
      repeat' ((conv => whnf) <;> (first | (refine Kx.frzR 0 rfl ?_ <;> refine Kx.stpS (T := tab) 9 66 rfl Qs rfl (Sb.row 0 rfl) ?_) | refine CK.anyK [0, 1, 2, 3, 4, 6, 7, 8] [5, 9, 10, 11] _ (List.Sublist.cons _ (List.Sublist.refl _)) Qk ?_ | (refine LK.nilrow 3 1 ?_ <;> refine pS ?_) | refine zM ?_ | refine zW ?_ | intro _ | exact zF | refine Br.tt ?_ | refine Br.ff ?_ | (refine Br.mk (fun h => ?_) (fun h => ?_) <;> (try simp only [sh] at h) <;> try first | (exfalso; omega) | exact absurd trivial h | (simp at h; done)) | refine zA ?_ | refine zN ?_ | refine zO ?_ | refine zP ?_ | refine zB ?_ | refine zL ent37 ih ?_ | refine zG ent37 (fun h => ih) ?_ | refine lB ?_ | refine lBA ?_ | refine zK ?_ | refine s1 ?_ | refine sA ?_ | refine pS ?_ | refine LK.gr (Gr.bslV rfl rfl rfl rfl) ?_ | refine Ask.of (Gr.bslV rfl rfl rfl rfl) ?_ | refine Kx.nil ?_ | refine Kx.stp rfl rfl Qs ?_ | refine kA ?_ | refine kS ?_ | (refine Kx.frzR 0 rfl ?_ <;> refine kF ?_) | refine kP ?_ | refine k1 ?_ | refine kB ?_ | refine kL ?_ | refine zC ?_ | refine zD ?_ | fail))
      (conv => whnf); (refine Nxt.of ((w + 1, n + prfP p k (f ++ [(w : Int)]) (lim - n))) [10, 11, 12, 38, 39, 40, 41, 42, 43, 44, 45, 46, 47, 48, 49, 50, 51, 52, 53, 54, 55, 56, 57, 58, 59, 60, 61, 62, 63, 64, 65, 66, 67, 68, 69, 70, 71] Qr Qr Qr ?_ ?_ Qy ?_ <;> (try dsimp only) <;> (try omega))
      · refine ⟨by omega, by omega, by omega, fun h => by omega, fun k' hk' => ?_⟩
        obtain rfl : k = k' := by omega
        exact d6
      · exact Qs
    · repeat' ((conv => whnf) <;> (first | refine zM ?_ | refine zW ?_ | intro _ | exact zF | refine Br.tt ?_ | refine Br.ff ?_ | (refine Br.mk (fun h => ?_) (fun h => ?_) <;> (try simp only [sh] at h) <;> try first | (exfalso; omega) | exact absurd trivial h | (simp at h; done)) | refine zA ?_ | refine zN ?_ | refine zO ?_ | refine zP ?_ | refine zB ?_ | refine lB ?_ | refine lBA ?_ | refine zK ?_ | refine s1 ?_ | refine sA ?_ | refine pS ?_ | refine LK.gr (Gr.bslV rfl rfl rfl rfl) ?_ | refine Ask.of (Gr.bslV rfl rfl rfl rfl) ?_ | refine zC ?_ | refine zD ?_ | fail))
      conv => whnf
      refine Fin.pure (congrArg I ?_)
      cases m with
      | zero =>
        rw [prfP, if_pos hnil, d4 rfl]
      | succ k =>
        rw [prfP, if_pos hnil, d5 k rfl, prf_end (by omega)]
theorem c0Enough_ok (p : Pl) (fu : Int) (hs : Small p) (hv : validP p = true) : FnA Tryz.prog 15 [.agg (pcs p), I fu] (B (enoughB p fu)) := by
  have hsd := hs.du
  have hsw := hs.wk
  have hld : (p.duties.map duav).length = p.duties.length := by simp
  have hlw : (p.workers.map wkav).length = p.workers.length := by simp
  have c1 := c0pref_ok p hs hv p.duties.length [] 3000 (by simp) (by simp) (by omega)
  have hb := prfP_bd p (m := p.duties.length) (f := []) (lim := 3000) (by omega)
  unfold enoughB
  generalize prfP p p.duties.length [] 3000 = n at *
  have h1 := Int.mul_nonneg hb.1 (show 0 ≤ (p.workers.length : Int) + 1 by omega)
  have h2 := Int.mul_le_mul hb.2 (show (p.workers.length : Int) + 1 ≤ 1001 by omega) (by omega) (by omega)
  have h3 : n * (((p.workers.map wkav).length : Int) + 1) = n * ((p.workers.length : Int) + 1) := by rw [hlw]
  refine fn_run (T := tab) Tryz.func15 rfl Tryz.ntmps15 rfl Tryz.results15 (fun _ => ?_)
  repeat' ((conv => whnf) <;> (first | (refine LK.callA (as2 := [.agg (pcs p), .sl 1 [], I 3000]) ent37 c1 rfl rfl (SbL.cons (Sb.refl _) (SbL.cons (Sb.nil (k := 1)) (SbL.refl _))) ?_) | refine zM ?_ | refine zW ?_ | intro _ | exact zF | refine Br.tt ?_ | refine Br.ff ?_ | (refine Br.mk (fun h => ?_) (fun h => ?_) <;> (try simp only [sh] at h) <;> try first | (exfalso; omega) | exact absurd trivial h | (simp at h; done)) | refine zA ?_ | refine zN ?_ | refine zO ?_ | refine zP ?_ | refine zB ?_ | refine lB ?_ | refine lBA ?_ | refine zK ?_ | refine s1 ?_ | refine sA ?_ | refine zC ?_ | fail))
  all_goals (conv => whnf)
  all_goals (refine Fin.pure (congrArg B ?_))
  rw [hlw, hld]
end Go.Proofs.YtecemgicnboaaaaGreat
