/-
  Walks: package roster: within, Valid, isRoster, Cost.
  Conditions: those of each theorem.
-/
import Derived.Test.YtjfnkmlnbaianaaGreatRO0
namespace Go.Proofs.YtjfnkmlnbaianaaGreat
open Go.E2 Go.Wage
theorem oWithin_ok (n m : Int) : FnA Tryz.prog 76 [I n, I m] (B (inB n m)) := by
 refine fn_run (T := tab) Tryz.func76 rfl Tryz.ntmps76 rfl Tryz.results76 (fun _ => ?_)
 repeat' ((conv => whnf) <;> (first | refine zM ?_ | refine zW ?_ | intro _ | exact zF | refine Fin.pure ?_ | refine Br.tt ?_ | refine Br.ff ?_ | (refine Br.mk (fun h => ?_) (fun h => ?_) <;> (try simp only [sh] at h) <;> try first | (exfalso; omega) | exact absurd trivial h | (simp at h; done)) | refine zA ?_ | refine zN ?_ | refine zO ?_ | refine zP ?_ | refine zB ?_ | refine zK ?_ | refine zC ?_ | fail))
 all_goals (refine congrArg B ?_; unfold inB; rw [Bool.eq_iff_iff]; simp only [Bool.and_eq_true, decide_eq_true_eq])
set_option maxRecDepth 4000 in
set_option maxHeartbeats 4000000 in
theorem oValid_ok (p : Pl) (hs : Small p) : FnA Tryz.prog 58 [.agg (pcs p)] (B (validP p)) := by
 have c1 := zValid_ok p.zone (by have := hs.ch; omega)
 have hld : (p.duties.map duav).length = p.duties.length := by simp
 have hlw : (p.workers.map wkav).length = p.workers.length := by simp
 have hsd := hs.du
 have hsw := hs.wk
 refine fn_run (T := tab) Tryz.func58 rfl Tryz.ntmps58 rfl Tryz.results58 (fun _ => ?_)
 repeat' ((conv => whnf) <;> (first | refine zM ?_ | refine zW ?_ | intro _ | exact zF | refine Fin.pure ?_ | refine Br.tt ?_ | refine Br.ff ?_ | (refine Br.mk (fun h => ?_) (fun h => ?_) <;> (try simp only [sh] at h) <;> try first | (exfalso; omega) | exact absurd trivial h | (simp at h; done)) | refine zA ?_ | refine zN ?_ | refine zO ?_ | refine zP ?_ | refine zB ?_ | refine zL ent75 c1 ?_ | refine zG ent75 (fun h => c1) ?_ | refine lB ?_ | refine lBA ?_ | refine zK ?_ | refine s1 ?_ | refine sA ?_ | refine zC ?_ | fail))
 ·refine noP fun hp => ?_
  have := validP_iff.1 hp
  rcases h with (h | h) | h
  ·rw [this.1] at h; cases h
  ·omega
  ·omega
 have hz := h.1.1
 have c2 := fun d => hMinutes_ok p d hz
 have h24 := h.1.2
 have h12 := h.2
 (conv => whnf); refine CK.loop [2, 4, 5, 6, 31, 32, 33, 34, 35, 36, 37, 38, 39, 40, 41, 42, 43, 44] (σ := Nat) (fun k => k ≤ p.duties.length ∧ (p.duties.take k).all (dutyOk p) = true) (fun k => [(31, I k)]) (fun _ => _) (fun k => p.duties.length - k) 0 ⟨Nat.zero_le _, rfl⟩ Qy (List.Sublist.refl _) ?_
 conv => whnf
 rintro k ⟨i1, i2⟩
 by_cases hk : k < p.duties.length
 ·have c3 := c2 (p.duties.getD k default)
  repeat' ((conv => whnf) <;> (first | (refine Nxt.of (k + 1) [2, 4, 5, 6, 31, 32, 33, 34, 35, 36, 37, 38, 39, 40, 41, 42, 43, 44] Qr Qr Qr ?_ ?_ Qy Qs <;> (try dsimp only) <;> (try omega)) | refine zM ?_ | refine zW ?_ | intro _ | exact zF | refine Fin.pure ?_ | refine Br.tt ?_ | refine Br.ff ?_ | (refine Br.mk (fun h => ?_) (fun h => ?_) <;> (try simp only [sh] at h) <;> try first | (exfalso; omega) | exact absurd trivial h | (simp at h; done)) | refine zA ?_ | refine zN ?_ | refine zO ?_ | refine zP ?_ | refine zB ?_ | refine zL ent59 c3 ?_ | refine zG ent59 (fun h => c3) ?_ | refine lB ?_ | refine lBA ?_ | refine zK ?_ | refine s1 ?_ | refine sA ?_ | refine zC ?_ | fail))
  ·refine noP fun hp => h ?_
   rw [if_pos (List.all_eq_true.1 (validP_iff.1 hp).2.2.2.1 _ (getD_mem hk))]
  ·refine ⟨hk, all_take i2 hk ?_⟩
   by_cases hq : dutyOk p (p.duties.getD k default) = true
   ·exact hq
   ·rw [if_neg hq] at h
    split at h <;> cases h
 have e : p.duties.take k = p.duties := List.take_of_length_le (by omega)
 rw [e] at i2
 repeat' ((conv => whnf) <;> (first | refine zM ?_ | refine zW ?_ | intro _ | exact zF | refine Fin.pure ?_ | refine Br.tt ?_ | refine Br.ff ?_ | (refine Br.mk (fun h => ?_) (fun h => ?_) <;> (try simp only [sh] at h) <;> try first | (exfalso; omega) | exact absurd trivial h | (simp at h; done)) | refine zA ?_ | refine zN ?_ | refine zO ?_ | refine zP ?_ | refine zB ?_ | refine lB ?_ | refine lBA ?_ | refine zK ?_ | refine s1 ?_ | refine sA ?_ | refine zC ?_ | fail))
 (conv => whnf); refine CK.loop [2, 8, 10, 48, 49, 50, 51, 52, 53, 54, 55, 56, 57, 58, 59, 60, 61, 62, 63, 64, 65, 66, 67, 68, 69, 70, 71, 72, 73, 74, 75, 76, 77, 78, 79, 80, 81, 82, 83, 84, 85, 86, 87, 88] (σ := Nat) (fun k => k ≤ p.workers.length ∧ (p.workers.take k).all wkOk = true) (fun k => [(48, I k)]) (fun _ => _) (fun k => p.workers.length - k) 0 ⟨Nat.zero_le _, rfl⟩ Qy (List.Sublist.refl _) ?_
 conv => whnf
 rintro k ⟨j1, j2⟩
 by_cases hk : k < p.workers.length
 ·have hw := hs.aw (p.workers.getD k default) (by simp [List.getD, hk])
  have c4 := oWithin_ok (p.workers.getD k default).skill 65535
  have c5 := oWithin_ok (p.workers.getD k default).wage 1000000
  have c6 := sValid_ok (p.workers.getD k default).away (by omega)
  have hla : ((p.workers.getD k default).away.map spav).length = (p.workers.getD k default).away.length := by simp
  repeat' ((conv => whnf) <;> (first | refine zM ?_ | refine zW ?_ | intro _ | exact zF | refine Fin.pure ?_ | refine Br.tt ?_ | refine Br.ff ?_ | (refine Br.mk (fun h => ?_) (fun h => ?_) <;> (try simp only [sh] at h) <;> try first | (exfalso; omega) | exact absurd trivial h | (simp at h; done)) | refine zA ?_ | refine zN ?_ | refine zO ?_ | refine zP ?_ | refine zB ?_ | refine zL ent76 c4 ?_ | refine zG ent76 (fun h => c4) ?_ | refine zL ent76 c5 ?_ | refine zG ent76 (fun h => c5) ?_ | refine zL ent77 c6 ?_ | refine zG ent77 (fun h => c6) ?_ | refine lB ?_ | refine lBA ?_ | refine zK ?_ | refine s1 ?_ | refine sA ?_ | refine zC ?_ | fail))
  ·refine noP fun hp => ?_
   have := wkOk_iff.1 (List.all_eq_true.1 (validP_iff.1 hp).2.2.2.2.1 _ (getD_mem hk))
   rcases h with h | h
   ·rw [this.1] at h; cases h
   ·rw [this.2.1] at h; cases h
  ·refine noP fun hp => ?_
   have := wkOk_iff.1 (List.all_eq_true.1 (validP_iff.1 hp).2.2.2.2.1 _ (getD_mem hk))
   rcases h with h | h
   ·omega
   ·rw [this.2.2.2.1] at h; cases h
  rename_i hi1 hi2 hi3
  have haw := h
  (conv => whnf); refine CK.loopK [2, 10, 75, 76, 77, 78, 79, 80, 81, 82, 83, 84, 85, 86, 87] (σ := Nat) (fun j => j ≤ (p.workers.getD k default).away.length ∧ ((p.workers.getD k default).away.take j).all awOk = true) (fun j => [(75, I j)]) (fun _ => []) _ (fun j => (p.workers.getD k default).away.length - j) 0 ⟨Nat.zero_le _, rfl⟩ Qy (List.Sublist.refl _) ?_
  conv => whnf
  rintro j ⟨m1, m2⟩
  by_cases hj : j < (p.workers.getD k default).away.length
  ·repeat' ((conv => whnf) <;> (first | (refine Nxt.of (j + 1) [2, 10, 75, 76, 77, 78, 79, 80, 81, 82, 83, 84, 85, 86, 87] Qr Qr Qr ?_ ?_ Qy Qs <;> (try dsimp only) <;> (try omega)) | refine zM ?_ | refine zW ?_ | intro _ | exact zF | refine Fin.pure ?_ | refine Br.tt ?_ | refine Br.ff ?_ | (refine Br.mk (fun h => ?_) (fun h => ?_) <;> (try simp only [sh] at h) <;> try first | (exfalso; omega) | exact absurd trivial h | (simp at h; done)) | refine zA ?_ | refine zN ?_ | refine zO ?_ | refine zP ?_ | refine zB ?_ | refine lB ?_ | refine lBA ?_ | refine zK ?_ | refine s1 ?_ | refine sA ?_ | refine zC ?_ | fail))
   ·refine noP fun hp => ?_
    have := wkOk_iff.1 (List.all_eq_true.1 (validP_iff.1 hp).2.2.2.2.1 _ (getD_mem hk))
    have := List.all_eq_true.1 this.2.2.2.2 _ (getD_mem hj)
    unfold awOk at this
    simp only [Bool.and_eq_true, decide_eq_true_eq] at this
    omega
   ·refine ⟨hj, all_take m2 hj ?_⟩
    unfold awOk
    simp only [Bool.and_eq_true, decide_eq_true_eq]
    exact h
  ·repeat' ((conv => whnf) <;> (first | (refine Nxt.of (k + 1) [2, 8, 10, 48, 49, 50, 51, 52, 53, 54, 55, 56, 57, 58, 59, 60, 61, 62, 63, 64, 65, 66, 67, 68, 69, 70, 71, 72, 73, 74, 75, 76, 77, 78, 79, 80, 81, 82, 83, 84, 85, 86, 87, 88] Qr Qr Qr ?_ ?_ Qy Qs <;> (try dsimp only) <;> (try omega)) | refine zM ?_ | refine zW ?_ | intro _ | exact zF | refine Fin.pure ?_ | refine Br.tt ?_ | refine Br.ff ?_ | (refine Br.mk (fun h => ?_) (fun h => ?_) <;> (try simp only [sh] at h) <;> try first | (exfalso; omega) | exact absurd trivial h | (simp at h; done)) | refine zA ?_ | refine zN ?_ | refine zO ?_ | refine zP ?_ | refine zB ?_ | refine lB ?_ | refine lBA ?_ | refine zK ?_ | refine s1 ?_ | refine sA ?_ | refine zC ?_ | fail))
   rw [List.take_of_length_le (by omega)] at m2
   exact ⟨hk, all_take j2 hk (wkOk_iff.2 ⟨hi3.1, hi3.2, by omega, haw.2, m2⟩)⟩
 have e : p.workers.take k = p.workers := List.take_of_length_le (by omega)
 rw [e] at j2
 have d1 := oWithin_ok p.lim.rest 10080
 have d2 := oWithin_ok p.lim.week 20000
 have d3 := oWithin_ok p.lim.minor 1500
 have d4 := oWithin_ok p.lim.night.1 1440
 have d5 := oWithin_ok p.lim.night.2 1440
 repeat' ((conv => whnf) <;> (first | refine zM ?_ | refine zW ?_ | intro _ | exact zF | refine Fin.pure ?_ | refine Br.tt ?_ | refine Br.ff ?_ | (refine Br.mk (fun h => ?_) (fun h => ?_) <;> (try simp only [sh] at h) <;> try first | (exfalso; omega) | exact absurd trivial h | (simp at h; done)) | refine zA ?_ | refine zN ?_ | refine zO ?_ | refine zP ?_ | refine zB ?_ | refine zL ent76 d1 ?_ | refine zG ent76 (fun h => d1) ?_ | refine zL ent76 d2 ?_ | refine zG ent76 (fun h => d2) ?_ | refine zL ent76 d3 ?_ | refine zG ent76 (fun h => d3) ?_ | refine zL ent76 d4 ?_ | refine zG ent76 (fun h => d4) ?_ | refine zL ent76 d5 ?_ | refine zG ent76 (fun h => d5) ?_ | refine lB ?_ | refine lBA ?_ | refine zK ?_ | refine s1 ?_ | refine sA ?_ | refine zC ?_ | fail))
 refine congrArg B ?_
 rw [Bool.eq_iff_iff, validP_iff]
 have e1 : p.duties.all (dutyOk p) = true := i2
 unfold limOk
 simp only [Bool.and_eq_true]
 constructor
 ·intro h
  exact ⟨hz, by omega, by omega, e1, j2, h⟩
 ·exact fun h => h.2.2.2.2.2
theorem oIsRo_ok (p : Pl) (ro : List Int) (hs : Small p) : FnA Tryz.prog 48 [.agg (pcs p), .sl 1 (ro.map I)] (B (isRo p ro)) := by
 have hld : (p.duties.map duav).length = p.duties.length := by simp
 have hlw : (p.workers.map wkav).length = p.workers.length := by simp
 have hlr : (ro.map I).length = ro.length := by simp
 have hsd := hs.du
 have hsw := hs.wk
 have hno : ¬ isRo p ro = true → (AV.v (.bool false)) = B (isRo p ro) := fun h => congrArg B (Bool.eq_false_iff.2 h).symm
 refine fn_run (T := tab) Tryz.func48 rfl Tryz.ntmps48 rfl Tryz.results48 (fun _ => ?_)
 repeat' ((conv => whnf) <;> (first | refine zM ?_ | refine zW ?_ | intro _ | exact zF | refine Fin.pure ?_ | refine Br.tt ?_ | refine Br.ff ?_ | (refine Br.mk (fun h => ?_) (fun h => ?_) <;> (try simp only [sh] at h) <;> try first | (exfalso; omega) | exact absurd trivial h | (simp at h; done)) | refine zA ?_ | refine zN ?_ | refine zO ?_ | refine zP ?_ | refine zB ?_ | refine lB ?_ | refine lBA ?_ | refine zK ?_ | refine s1 ?_ | refine sA ?_ | refine zC ?_ | fail))
 ·exact hno fun hp => h (by have := (isRo_iff.1 hp).1; omega)
 have hl : ro.length = p.duties.length := by omega
 (conv => whnf); refine CK.loop [4, 6, 15, 16, 17, 18, 19, 20, 21, 22, 23, 24, 25, 26, 27, 28] (σ := Nat) (fun k => k ≤ ro.length ∧ ∀ w ∈ ro.take k, -1 ≤ w ∧ w < p.workers.length) (fun k => [(15, I k)]) (fun _ => _) (fun k => ro.length - k) 0 ⟨Nat.zero_le _, by simp⟩ Qy (List.Sublist.refl _) ?_
 conv => whnf
 rintro k ⟨i1, i2⟩
 by_cases hk : k < ro.length
 ·repeat' ((conv => whnf) <;> (first | (refine Nxt.of (k + 1) [4, 6, 15, 16, 17, 18, 19, 20, 21, 22, 23, 24, 25, 26, 27, 28] Qr Qr Qr ?_ ?_ Qy Qs <;> (try dsimp only) <;> (try omega)) | refine zM ?_ | refine zW ?_ | intro _ | exact zF | refine Fin.pure ?_ | refine Br.tt ?_ | refine Br.ff ?_ | (refine Br.mk (fun h => ?_) (fun h => ?_) <;> (try simp only [sh] at h) <;> try first | (exfalso; omega) | exact absurd trivial h | (simp at h; done)) | refine zA ?_ | refine zN ?_ | refine zO ?_ | refine zP ?_ | refine zB ?_ | refine lB ?_ | refine lBA ?_ | refine zK ?_ | refine s1 ?_ | refine sA ?_ | refine zC ?_ | fail))
  ·exact hno fun hp => by have := (isRo_iff.1 hp).2 _ (getD_mem hk); omega
  ·refine ⟨hk, fun w hw => ?_⟩
   rw [List.take_succ_eq_append_getElem hk, List.mem_append] at hw
   rcases hw with hw | hw
   ·exact i2 w hw
   ·have : ro[k] = ro.getD k default := by simp [List.getD, hk]
    rw [this, List.mem_singleton] at hw
    subst hw
    omega
 ·repeat' ((conv => whnf) <;> (first | refine zM ?_ | refine zW ?_ | intro _ | exact zF | refine Fin.pure ?_ | refine Br.tt ?_ | refine Br.ff ?_ | (refine Br.mk (fun h => ?_) (fun h => ?_) <;> (try simp only [sh] at h) <;> try first | (exfalso; omega) | exact absurd trivial h | (simp at h; done)) | refine zA ?_ | refine zN ?_ | refine zO ?_ | refine zP ?_ | refine zB ?_ | refine lB ?_ | refine lBA ?_ | refine zK ?_ | refine s1 ?_ | refine sA ?_ | refine zC ?_ | fail))
  rw [List.take_of_length_le (by omega)] at i2
  exact congrArg B (isRo_iff.2 ⟨hl, i2⟩).symm
end Go.Proofs.YtjfnkmlnbaianaaGreat
