/-
  Walks: what is small enough.
  Conditions: those of each theorem.
-/
import Derived.Test.YtjfnkmlnbaianaaGreatRO0
namespace Go.Proofs.YtjfnkmlnbaianaaGreat
open Go.E2 Go.Wage
def smallV (p : Pl) (ro : List Int) (most : Int) : Bool := decide (p.duties.length ≤ most) && decide (ro.length ≤ 40) && decide (p.workers.length ≤ 20) && decide (p.zone.chs.length ≤ 70) && p.workers.all fun w => decide (w.away.length ≤ 420)
theorem smallV_iff {p : Pl} {ro : List Int} {most : Int} : smallV p ro most = true ↔ p.duties.length ≤ most ∧ ro.length ≤ 40 ∧ p.workers.length ≤ 20 ∧ p.zone.chs.length ≤ 70 ∧ ∀ w ∈ p.workers, w.away.length ≤ 420 := by
 unfold smallV
 simp only [Bool.and_eq_true, decide_eq_true_eq, List.all_eq_true]
 exact ⟨fun h => ⟨h.1.1.1.1, h.1.1.1.2, h.1.1.2, h.1.2, h.2⟩, fun h => ⟨⟨⟨⟨h.1, h.2.1⟩, h.2.2.1⟩, h.2.2.2.1⟩, h.2.2.2.2⟩⟩
set_option maxHeartbeats 4000000 in
theorem vSmall_ok (p : Pl) (ro : List Int) (most : Int) (hz : p.zone.chs.length ≤ 9223372036854775807) (hw : p.workers.length ≤ 9223372036854775807) (hr : ro.length ≤ 9223372036854775807) (ha : ∀ w ∈ p.workers, w.away.length ≤ 9223372036854775807) : FnA Tryz.prog 30 [.agg (pcs p), .sl 1 (ro.map I), I most] (B (smallV p ro most)) := by
 have hlz : (p.zone.chs.map chav).length = p.zone.chs.length := by simp
 have hld : (p.duties.map duav).length = p.duties.length := by simp
 have hlw : (p.workers.map wkav).length = p.workers.length := by simp
 have hlr : (ro.map I).length = ro.length := by simp
 have hno : ¬ smallV p ro most = true → (AV.v (.bool false)) = B (smallV p ro most) := fun h => congrArg B (Bool.eq_false_iff.2 h).symm
 refine fn_run (T := tab) Tryz.func30 rfl Tryz.ntmps30 rfl Tryz.results30 (fun _ => ?_)
 repeat' ((conv => whnf) <;> (first | refine zM ?_ | refine zW ?_ | intro _ | exact zF | refine Fin.pure ?_ | refine Br.tt ?_ | refine Br.ff ?_ | (refine Br.mk (fun h => ?_) (fun h => ?_) <;> (try simp only [sh] at h) <;> try first | (exfalso; omega) | exact absurd trivial h | (simp at h; done)) | refine zA ?_ | refine zN ?_ | refine zO ?_ | refine zP ?_ | refine zB ?_ | refine lB ?_ | refine lBA ?_ | refine zK ?_ | refine s1 ?_ | refine sA ?_ | refine zC ?_ | fail))
 ·exact hno fun hp => by have := smallV_iff.1 hp; omega
 repeat' ((conv => whnf) <;> (first | refine zM ?_ | refine zW ?_ | intro _ | exact zF | refine Fin.pure ?_ | refine Br.tt ?_ | refine Br.ff ?_ | (refine Br.mk (fun h => ?_) (fun h => ?_) <;> (try simp only [sh] at h) <;> try first | (exfalso; omega) | exact absurd trivial h | (simp at h; done)) | refine zA ?_ | refine zN ?_ | refine zO ?_ | refine zP ?_ | refine zB ?_ | refine lB ?_ | refine lBA ?_ | refine zK ?_ | refine s1 ?_ | refine sA ?_ | refine zC ?_ | fail))
 (conv => whnf); refine CK.loop [6, 7, 31, 32, 33, 34, 35, 36, 37, 38, 39, 40, 41, 42, 43, 44, 45] (σ := Nat) (fun k => k ≤ p.workers.length ∧ ∀ w ∈ p.workers.take k, w.away.length ≤ 420) (fun k => [(7, I k)]) (fun _ => _) (fun k => p.workers.length - k) 0 ⟨Nat.zero_le _, by simp⟩ Qy (List.Sublist.refl _) ?_
 conv => whnf
 rintro k ⟨i1, i2⟩
 by_cases hk : k < p.workers.length
 ·have hak := ha _ (getD_mem hk)
  have hla : ((p.workers.getD k default).away.map spav).length = (p.workers.getD k default).away.length := by simp
  repeat' ((conv => whnf) <;> (first | (refine Nxt.of (k + 1) [6, 7, 31, 32, 33, 34, 35, 36, 37, 38, 39, 40, 41, 42, 43, 44, 45] Qr Qr Qr ?_ ?_ Qy Qs <;> (try dsimp only) <;> (try omega)) | refine zM ?_ | refine zW ?_ | intro _ | exact zF | refine Fin.pure ?_ | refine Br.tt ?_ | refine Br.ff ?_ | (refine Br.mk (fun h => ?_) (fun h => ?_) <;> (try simp only [sh] at h) <;> try first | (exfalso; omega) | exact absurd trivial h | (simp at h; done)) | refine zA ?_ | refine zN ?_ | refine zO ?_ | refine zP ?_ | refine zB ?_ | refine lB ?_ | refine lBA ?_ | refine zK ?_ | refine s1 ?_ | refine sA ?_ | refine zC ?_ | fail))
  ·exact hno fun hp => by have := (smallV_iff.1 hp).2.2.2.2 _ (getD_mem hk); omega
  ·refine ⟨hk, fun w hw => ?_⟩
   rw [List.take_succ_eq_append_getElem hk, List.mem_append, ← getD_at hk, List.mem_singleton] at hw
   rcases hw with hw | rfl
   ·exact i2 w hw
   ·omega
 ·repeat' ((conv => whnf) <;> (first | refine zM ?_ | refine zW ?_ | intro _ | exact zF | refine Fin.pure ?_ | refine Br.tt ?_ | refine Br.ff ?_ | (refine Br.mk (fun h => ?_) (fun h => ?_) <;> (try simp only [sh] at h) <;> try first | (exfalso; omega) | exact absurd trivial h | (simp at h; done)) | refine zA ?_ | refine zN ?_ | refine zO ?_ | refine zP ?_ | refine zB ?_ | refine lB ?_ | refine lBA ?_ | refine zK ?_ | refine s1 ?_ | refine sA ?_ | refine zC ?_ | fail))
  rw [List.take_of_length_le (by omega)] at i2
  exact congrArg B (smallV_iff.2 ⟨by omega, by omega, by omega, by omega, i2⟩).symm
structure PlZ (p : Pl) : Prop where
 ch : p.zone.chs.length ≤ 9223372036854775807
 du : p.duties.length ≤ 9223372036854775807
 wk : p.workers.length ≤ 9223372036854775807
 aw : ∀ w ∈ p.workers, w.away.length ≤ 9223372036854775807
abbrev U (n : Int) : AV := .v (.int .u16 n)
end Go.Proofs.YtjfnkmlnbaianaaGreat
