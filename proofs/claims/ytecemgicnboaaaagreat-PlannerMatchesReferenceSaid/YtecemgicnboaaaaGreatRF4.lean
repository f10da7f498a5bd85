/-
  Walks: the reference of chapter 18: Cost.
  Conditions: those of each theorem.
-/
import Derived.Test.YtecemgicnboaaaaGreatRF3
namespace Go.Proofs.YtecemgicnboaaaaGreat
open Go.E2 Go.Wage
theorem v8Cost_ok (p : Pl) (ro : List Int) (hs : Small p) (hr0 : ro.length ≤ 100000) : FnA Tryz.prog 36 [.agg (pcs p), .sl 1 (ro.map I)] (.tup [I (if okRo p ro then costP p ro p.duties else 0), I (if okRo p ro then 0 else 1)]) := by
  have c1 := v8Valid_ok p hs
  have c2 := v8Roster_ok p ro hs (by omega)
  have hsd := hs.du
  have hsw := hs.wk
  have hld : (p.duties.map duav).length = p.duties.length := by simp
  have hlw : (p.workers.map wkav).length = p.workers.length := by simp
  have hlr : (ro.map I).length = ro.length := by simp
  by_cases hk : okRo p ro = true
  · have hk2 := hk
    unfold okRo at hk2
    rw [Bool.and_eq_true_iff] at hk2
    have hr := isRo_iff.1 hk2.2
    rw [hk2.1] at c1
    rw [hk2.2] at c2
    refine fn_run (T := tab) Tryz.func36 rfl Tryz.ntmps36 rfl Tryz.results36 (fun _ => ?_)
    repeat' ((conv => whnf) <;> (first | refine zM ?_ | refine zW ?_ | intro _ | exact zF | refine Br.tt ?_ | refine Br.ff ?_ | (refine Br.mk (fun h => ?_) (fun h => ?_) <;> (try simp only [sh] at h) <;> try first | (exfalso; omega) | exact absurd trivial h | (simp at h; done)) | refine zA ?_ | refine zN ?_ | refine zO ?_ | refine zP ?_ | refine zB ?_ | refine zL ent10 c1 ?_ | refine zG ent10 (fun h => c1) ?_ | refine zL ent72 c2 ?_ | refine zG ent72 (fun h => c2) ?_ | refine lB ?_ | refine lBA ?_ | refine zK ?_ | refine s1 ?_ | refine sA ?_ | refine zC ?_ | fail))
    (conv => whnf); refine CK.loop [6, 7, 17, 18, 19, 20, 21, 22, 23, 24, 25, 26, 27, 28, 29, 30, 31, 32, 33, 34, 35, 36, 37, 38, 39, 40, 41, 42, 43, 44, 45, 46, 47, 48, 49, 50, 51, 52] (σ := Nat × Int) (fun s => s.1 ≤ ro.length ∧ s.2 = costP p (ro.take s.1) (p.duties.take s.1) ∧ 0 ≤ s.2 ∧ s.2 ≤ 1440000000 * s.1) (fun ⟨k, c⟩ => [(7, I k), (6, I c)]) (fun _ => _) (fun s => ro.length - s.1) (0, 0) ⟨Nat.zero_le _, by simp [costP], by simp, by simp⟩ Qy (List.Sublist.refl _) ?_
    conv => whnf
    rintro ⟨k, c⟩ ⟨i1, i2, i3, i4⟩
    simp only at i1 i2 i3 i4
    by_cases hlt : k < ro.length
    · have hw := hr.2 _ (getD_mem hlt)
      have hdk := List.all_eq_true.1 (validP_iff.1 hk2.1).2.2.2.1 _ (getD_mem (l := p.duties) (k := k) (by omega))
      have ht := termC_bd hk2.1 hw.2 hdk
      have hdk2 := hdk
      unfold dutyOk at hdk2
      have hdb := duB_bd (Bool.and_eq_true_iff.1 hdk2).1
      have hst : costP p (ro.take (k + 1)) (p.duties.take (k + 1)) = costP p (ro.take k) (p.duties.take k) + termC p (ro.getD k default) (p.duties.getD k default) := by
        rw [List.take_succ_eq_append_getElem hlt, List.take_succ_eq_append_getElem (show k < p.duties.length by omega), costP_snoc p _ _ (by simp; omega), getD_at hlt, getD_at (show k < p.duties.length by omega)]
      unfold termC at ht hst
      by_cases h0 : 0 ≤ ro.getD k default
      · rw [if_pos h0] at ht hst
        repeat' ((conv => whnf) <;> (first | refine zM ?_ | refine zW ?_ | intro _ | exact zF | refine Br.tt ?_ | refine Br.ff ?_ | (refine Br.mk (fun h => ?_) (fun h => ?_) <;> (try simp only [sh] at h) <;> try first | (exfalso; omega) | exact absurd trivial h | (simp at h; done)) | refine zA ?_ | refine zN ?_ | refine zO ?_ | refine zP ?_ | refine zB ?_ | refine lB ?_ | refine lBA ?_ | refine zK ?_ | refine s1 ?_ | refine sA ?_ | refine zC ?_ | fail))
        (conv => whnf); (refine Nxt.of ((k + 1, _)) [6, 7, 17, 18, 19, 20, 21, 22, 23, 24, 25, 26, 27, 28, 29, 30, 31, 32, 33, 34, 35, 36, 37, 38, 39, 40, 41, 42, 43, 44, 45, 46, 47, 48, 49, 50, 51, 52] Qr Qr Qr ?_ ?_ Qy Qs <;> (try dsimp only) <;> (try omega))
      · rw [if_neg h0] at ht hst
        repeat' ((conv => whnf) <;> (first | refine zM ?_ | refine zW ?_ | intro _ | exact zF | refine Br.tt ?_ | refine Br.ff ?_ | (refine Br.mk (fun h => ?_) (fun h => ?_) <;> (try simp only [sh] at h) <;> try first | (exfalso; omega) | exact absurd trivial h | (simp at h; done)) | refine zA ?_ | refine zN ?_ | refine zO ?_ | refine zP ?_ | refine zB ?_ | refine lB ?_ | refine lBA ?_ | refine zK ?_ | refine s1 ?_ | refine sA ?_ | refine zC ?_ | fail))
        (conv => whnf); (refine Nxt.of ((k + 1, c)) [6, 7, 17, 18, 19, 20, 21, 22, 23, 24, 25, 26, 27, 28, 29, 30, 31, 32, 33, 34, 35, 36, 37, 38, 39, 40, 41, 42, 43, 44, 45, 46, 47, 48, 49, 50, 51, 52] Qr Qr Qr ?_ ?_ Qy Qs <;> (try dsimp only) <;> (try omega))
    · have e1 : ro.take k = ro := List.take_of_length_le (by omega)
      have e2 : p.duties.take k = p.duties := List.take_of_length_le (by omega)
      rw [e1, e2] at i2
      repeat' ((conv => whnf) <;> (first | refine zM ?_ | refine zW ?_ | intro _ | exact zF | refine Br.tt ?_ | refine Br.ff ?_ | (refine Br.mk (fun h => ?_) (fun h => ?_) <;> (try simp only [sh] at h) <;> try first | (exfalso; omega) | exact absurd trivial h | (simp at h; done)) | refine zA ?_ | refine zN ?_ | refine zO ?_ | refine zP ?_ | refine zB ?_ | refine lB ?_ | refine lBA ?_ | refine zK ?_ | refine s1 ?_ | refine sA ?_ | refine zC ?_ | fail))
      conv => whnf
      refine Fin.pure ?_
      rw [if_pos hk, if_pos hk, i2]
  · rw [if_neg hk, if_neg hk]
    have hk2 : ¬ (validP p = true ∧ isRo p ro = true) := by
      unfold okRo at hk
      rwa [Bool.and_eq_true_iff] at hk
    refine fn_run (T := tab) Tryz.func36 rfl Tryz.ntmps36 rfl Tryz.results36 (fun _ => ?_)
    repeat' ((conv => whnf) <;> (first | refine zM ?_ | refine zW ?_ | intro _ | exact zF | refine Fin.pure ?_ | refine Br.tt ?_ | refine Br.ff ?_ | (refine Br.mk (fun h => ?_) (fun h => ?_) <;> (try simp only [sh] at h) <;> try first | (exfalso; omega) | exact absurd trivial h | (simp at h; done)) | refine zA ?_ | refine zN ?_ | refine zO ?_ | refine zP ?_ | refine zB ?_ | refine zL ent10 c1 ?_ | refine zG ent10 (fun h => c1) ?_ | refine zL ent72 c2 ?_ | refine zG ent72 (fun h => c2) ?_ | refine lB ?_ | refine lBA ?_ | refine zK ?_ | refine s1 ?_ | refine sA ?_ | refine zC ?_ | fail))
    exact absurd h hk2
end Go.Proofs.YtecemgicnboaaaaGreat
