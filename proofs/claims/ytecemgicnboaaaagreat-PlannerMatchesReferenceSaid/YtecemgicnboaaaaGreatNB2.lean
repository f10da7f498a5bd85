/-
  Walks: reference 20: Same, Less.
  Conditions: those of each theorem.
-/
import Derived.Test.YtecemgicnboaaaaGreatNB1
import Derived.Test.YtecemgicnboaaaaGreatRF2
namespace Go.Proofs.YtecemgicnboaaaaGreat
open Go.E2 Go.Wage
theorem numD_len (W : Nat) : ∀ (k n : Nat), (numD W k n).length = k
  | 0, _ => rfl
  | k + 1, n => by rw [numD, List.length_append, numD_len W k]; rfl
theorem ext_getDN {a b : List Int} (hl : a.length = b.length) (h : ∀ j, j < a.length → a.getD j default = b.getD j default) : a = b := by
  apply List.ext_getElem hl
  intro j h1 h2
  have := h j h1
  rwa [getD_at h1, getD_at h2] at this
set_option maxHeartbeats 4000000 in
theorem c0Same_ok (a b : List Int) (ha : a.length ≤ 100000) : FnA Tryz.prog 16 [.sl 1 (a.map I), .sl 1 (b.map I)] (B (decide (a = b))) := by
  have hla : (a.map I).length = a.length := by simp
  have hlb : (b.map I).length = b.length := by simp
  by_cases hl : a.length = b.length
  · refine fn_run (T := tab) Tryz.func16 rfl Tryz.ntmps16 rfl Tryz.results16 (fun _ => ?_)
    repeat' ((conv => whnf) <;> (first | refine zM ?_ | refine zW ?_ | intro _ | exact zF | refine Br.tt ?_ | refine Br.ff ?_ | (refine Br.mk (fun h => ?_) (fun h => ?_) <;> (try simp only [sh] at h) <;> try first | (exfalso; omega) | exact absurd trivial h | (simp at h; done)) | refine zA ?_ | refine zN ?_ | refine zO ?_ | refine zP ?_ | refine zB ?_ | refine lB ?_ | refine lBA ?_ | refine zK ?_ | refine s1 ?_ | refine sA ?_ | refine zC ?_ | fail))
    (conv => whnf); refine CK.loopK [4, 5, 11, 12, 13, 14, 15, 16, 17, 18, 19, 20, 21, 22, 23, 24, 25] (σ := Nat) (fun i => i ≤ a.length ∧ ∀ j, j < i → a.getD j default = b.getD j default) (fun i => [(5, I i)]) (fun _ => []) _ (fun i => a.length - i) 0 ⟨Nat.zero_le _, by omega⟩ Qy (List.Sublist.refl _) ?_
    conv => whnf
    rintro i ⟨i1, i2⟩
    by_cases hi : i < a.length
    · repeat' ((conv => whnf) <;> (first | refine zM ?_ | refine zW ?_ | intro _ | exact zF | refine Br.tt ?_ | refine Br.ff ?_ | (refine Br.mk (fun h => ?_) (fun h => ?_) <;> (try simp only [sh] at h) <;> try first | (exfalso; omega) | exact absurd trivial h | (simp at h; done)) | refine zA ?_ | refine zN ?_ | refine zO ?_ | refine zP ?_ | refine zB ?_ | refine lB ?_ | refine lBA ?_ | refine zK ?_ | refine s1 ?_ | refine sA ?_ | refine zC ?_ | fail))
      · conv => whnf
        refine Fin.pure (congrArg B ?_)
        have hne : a ≠ b := fun e => by subst e; contradiction
        simp [hne]
      · (conv => whnf); (refine Nxt.of (i + 1) [4, 5, 11, 12, 13, 14, 15, 16, 17, 18, 19, 20, 21, 22, 23, 24, 25] Qr Qr Qr ?_ ?_ Qy Qs <;> (try dsimp only) <;> (try omega))
        refine ⟨by omega, fun j hj => ?_⟩
        rcases Nat.lt_or_eq_of_le (Nat.le_of_lt_succ hj) with h1 | rfl
        · exact i2 j h1
        · assumption
    · repeat' ((conv => whnf) <;> (first | refine zM ?_ | refine zW ?_ | intro _ | exact zF | refine Br.tt ?_ | refine Br.ff ?_ | (refine Br.mk (fun h => ?_) (fun h => ?_) <;> (try simp only [sh] at h) <;> try first | (exfalso; omega) | exact absurd trivial h | (simp at h; done)) | refine zA ?_ | refine zN ?_ | refine zO ?_ | refine zP ?_ | refine zB ?_ | refine lB ?_ | refine lBA ?_ | refine zK ?_ | refine s1 ?_ | refine sA ?_ | refine zC ?_ | fail))
      conv => whnf
      refine Fin.pure (congrArg B ?_)
      have e := ext_getDN hl fun j hj => i2 j (by omega)
      simp [e]
  · refine fn_run (T := tab) Tryz.func16 rfl Tryz.ntmps16 rfl Tryz.results16 (fun _ => ?_)
    repeat' ((conv => whnf) <;> (first | refine zM ?_ | refine zW ?_ | intro _ | exact zF | refine Br.tt ?_ | refine Br.ff ?_ | (refine Br.mk (fun h => ?_) (fun h => ?_) <;> (try simp only [sh] at h) <;> try first | (exfalso; omega) | exact absurd trivial h | (simp at h; done)) | refine zA ?_ | refine zN ?_ | refine zO ?_ | refine zP ?_ | refine zB ?_ | refine lB ?_ | refine lBA ?_ | refine zK ?_ | refine s1 ?_ | refine sA ?_ | refine zC ?_ | fail))
    conv => whnf
    refine Fin.pure (congrArg B ?_)
    have hne : a ≠ b := fun e => hl (by rw [e])
    simp [hne]
end Go.Proofs.YtecemgicnboaaaaGreat
