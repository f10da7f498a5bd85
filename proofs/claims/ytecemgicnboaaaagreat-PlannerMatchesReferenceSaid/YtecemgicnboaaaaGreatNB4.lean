/-
  Walks: law 20: small, pick. Minutes of a valid plan are positive.
  Conditions: those of each theorem.
-/
import Derived.Test.YtecemgicnboaaaaGreatNB2
namespace Go.Proofs.YtecemgicnboaaaaGreat
open Go.E2 Go.Wage
theorem posP_of {p : Pl} (hv : validP p = true) : PosP p := fun ro hl w => by
  have h24 := (validP_iff.1 hv).2.1
  refine (tri_of hv (fun d hd => ?_) (by have := mineR_len ro w; omega)).pos
  have := mineR_lt hd
  exact List.all_eq_true.1 (validP_iff.1 hv).2.2.2.1 _ (getD_mem (by omega))
def pickP (c n : Int) : Int := (if c < 0 then -(c + 1) else c) % n
theorem pick_bd {c n : Int} (hn : 1 ≤ n) : 0 ≤ pickP c n ∧ pickP c n < n := by
  unfold pickP
  exact ⟨Int.emod_nonneg _ (by omega), Int.emod_lt_of_pos _ (by omega)⟩
theorem m0Pick_ok (c n : Int) (hn : 1 ≤ n) (hc : -9223372036854775808 ≤ c ∧ c ≤ 9223372036854775807) : FnA Tryz.prog 14 [I c, I n] (I (pickP c n)) := by
  unfold pickP
  refine fn_run (T := tab) Tryz.func14 rfl Tryz.ntmps14 rfl Tryz.results14 (fun _ => ?_)
  repeat' ((conv => whnf) <;> (first | refine zM ?_ | refine zW ?_ | intro _ | exact zF | refine Br.tt ?_ | refine Br.ff ?_ | (refine Br.mk (fun h => ?_) (fun h => ?_) <;> (try simp only [sh] at h) <;> try first | (exfalso; omega) | exact absurd trivial h | (simp at h; done)) | refine zA ?_ | refine zN ?_ | refine zO ?_ | refine zP ?_ | refine zB ?_ | refine zR ?_ | refine Rem.t Qw ?_ | refine lB ?_ | refine lBA ?_ | refine zK ?_ | refine s1 ?_ | refine sA ?_ | refine zC ?_ | fail))
  · conv => whnf
    exact Fin.pure (by rw [if_pos (by assumption)])
  · conv => whnf
    exact Fin.pure (by rw [if_neg (by omega)])
structure PlZ (p : Pl) : Prop where
  ch : p.zone.chs.length ≤ 9223372036854775807
  du : p.duties.length ≤ 9223372036854775807
  wk : p.workers.length ≤ 9223372036854775807
  aw : ∀ w ∈ p.workers, w.away.length ≤ 9223372036854775807
def smP (p : Pl) : Bool := decide (p.duties.length ≤ 8) && decide (p.workers.length ≤ 6) && decide (p.zone.chs.length ≤ 20) && p.workers.all fun w => decide (w.away.length ≤ 20)
theorem smP_iff {p : Pl} : smP p = true ↔ p.duties.length ≤ 8 ∧ p.workers.length ≤ 6 ∧ p.zone.chs.length ≤ 20 ∧ ∀ w ∈ p.workers, w.away.length ≤ 20 := by
  unfold smP
  simp only [Bool.and_eq_true, decide_eq_true_eq, List.all_eq_true]
  exact ⟨fun h => ⟨h.1.1.1, h.1.1.2, h.1.2, h.2⟩, fun h => ⟨⟨⟨h.1, h.2.1⟩, h.2.2.1⟩, h.2.2.2⟩⟩
theorem small_sm {p : Pl} (h : smP p = true) : Small p := by
  have h := smP_iff.1 h
  exact ⟨by omega, by omega, by omega, fun w hw => by have := h.2.2.2 w hw; omega⟩
def fineP (p : Pl) (most : Int) : Bool := smP p && (validP p && decide (cntP p most ≤ most))
set_option maxHeartbeats 4000000 in
theorem m0Small_ok (p : Pl) (most : Int) (hm : 1 ≤ most ∧ most ≤ 1000000) (hz : PlZ p) : FnA Tryz.prog 12 [.agg (pcs p), I most] (B (fineP p most)) := by
  have hlz : (p.zone.chs.map chav).length = p.zone.chs.length := by simp
  have hld : (p.duties.map duav).length = p.duties.length := by simp
  have hlw : (p.workers.map wkav).length = p.workers.length := by simp
  have z1 := hz.ch
  have z2 := hz.du
  have z3 := hz.wk
  have hno : ¬ smP p = true → (AV.v (.bool false)) = B (fineP p most) := fun h => congrArg B (by unfold fineP; rw [Bool.eq_false_iff.2 h]; rfl)
  refine fn_run (T := tab) Tryz.func12 rfl Tryz.ntmps12 rfl Tryz.results12 (fun _ => ?_)
  repeat' ((conv => whnf) <;> (first | refine zM ?_ | refine zW ?_ | intro _ | exact zF | refine Fin.pure ?_ | refine Br.tt ?_ | refine Br.ff ?_ | (refine Br.mk (fun h => ?_) (fun h => ?_) <;> (try simp only [sh] at h) <;> try first | (exfalso; omega) | exact absurd trivial h | (simp at h; done)) | refine zA ?_ | refine zN ?_ | refine zO ?_ | refine zP ?_ | refine zB ?_ | refine zR ?_ | refine Rem.t Qw ?_ | refine lB ?_ | refine lBA ?_ | refine zK ?_ | refine s1 ?_ | refine sA ?_ | refine zC ?_ | fail))
  · exact hno fun hp => by have := smP_iff.1 hp; omega
  repeat' ((conv => whnf) <;> (first | refine zM ?_ | refine zW ?_ | intro _ | exact zF | refine Fin.pure ?_ | refine Br.tt ?_ | refine Br.ff ?_ | (refine Br.mk (fun h => ?_) (fun h => ?_) <;> (try simp only [sh] at h) <;> try first | (exfalso; omega) | exact absurd trivial h | (simp at h; done)) | refine zA ?_ | refine zN ?_ | refine zO ?_ | refine zP ?_ | refine zB ?_ | refine zR ?_ | refine Rem.t Qw ?_ | refine lB ?_ | refine lBA ?_ | refine zK ?_ | refine s1 ?_ | refine sA ?_ | refine zC ?_ | fail))
  (conv => whnf); refine CK.loop [4, 5, 24, 25, 26, 27, 28, 29, 30, 31, 32, 33, 34, 35, 36, 37, 38] (σ := Nat) (fun k => k ≤ p.workers.length ∧ ∀ w ∈ p.workers.take k, w.away.length ≤ 20) (fun k => [(5, I k)]) (fun _ => _) (fun k => p.workers.length - k) 0 ⟨Nat.zero_le _, by simp⟩ Qy (List.Sublist.refl _) ?_
  conv => whnf
  rintro k ⟨i1, i2⟩
  by_cases hk : k < p.workers.length
  · have hak := hz.aw _ (getD_mem hk)
    have hla : ((p.workers.getD k default).away.map spav).length = (p.workers.getD k default).away.length := by simp
    repeat' ((conv => whnf) <;> (first | (refine Nxt.of (k + 1) [4, 5, 24, 25, 26, 27, 28, 29, 30, 31, 32, 33, 34, 35, 36, 37, 38] Qr Qr Qr ?_ ?_ Qy Qs <;> (try dsimp only) <;> (try omega)) | refine zM ?_ | refine zW ?_ | intro _ | exact zF | refine Fin.pure ?_ | refine Br.tt ?_ | refine Br.ff ?_ | (refine Br.mk (fun h => ?_) (fun h => ?_) <;> (try simp only [sh] at h) <;> try first | (exfalso; omega) | exact absurd trivial h | (simp at h; done)) | refine zA ?_ | refine zN ?_ | refine zO ?_ | refine zP ?_ | refine zB ?_ | refine zR ?_ | refine Rem.t Qw ?_ | refine lB ?_ | refine lBA ?_ | refine zK ?_ | refine s1 ?_ | refine sA ?_ | refine zC ?_ | fail))
    · exact hno fun hp => by have := (smP_iff.1 hp).2.2.2 _ (getD_mem hk); omega
    · refine ⟨hk, fun w hw => ?_⟩
      rw [List.take_succ_eq_append_getElem hk, List.mem_append, ← getD_at hk, List.mem_singleton] at hw
      rcases hw with hw | rfl
      · exact i2 w hw
      · omega
  · rw [List.take_of_length_le (by omega)] at i2
    have hsm : smP p = true := smP_iff.2 ⟨by omega, by omega, by omega, i2⟩
    have hs := small_sm hsm
    have c1 := v8Valid_ok p hs
    have c2 := c0Count_ok p most hs hm
    repeat' ((conv => whnf) <;> (first | refine zM ?_ | refine zW ?_ | intro _ | exact zF | refine Br.tt ?_ | refine Br.ff ?_ | (refine Br.mk (fun h => ?_) (fun h => ?_) <;> (try simp only [sh] at h) <;> try first | (exfalso; omega) | exact absurd trivial h | (simp at h; done)) | refine zA ?_ | refine zN ?_ | refine zO ?_ | refine zP ?_ | refine zB ?_ | refine zR ?_ | refine Rem.t Qw ?_ | refine zL ent10 c1 ?_ | refine zG ent10 (fun h => c1) ?_ | refine zL ent23 c2 ?_ | refine zG ent23 (fun h => c2) ?_ | refine lB ?_ | refine lBA ?_ | refine zK ?_ | refine s1 ?_ | refine sA ?_ | refine zC ?_ | fail))
    conv => whnf
    exact Fin.pure (congrArg B (by unfold fineP; rw [hsm]; rfl))
end Go.Proofs.YtecemgicnboaaaaGreat
