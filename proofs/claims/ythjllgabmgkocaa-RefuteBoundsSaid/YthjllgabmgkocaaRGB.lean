/-
  Walks: RefuteBounds.
  Conditions: those of each theorem.
-/
import Derived.Test.YthjllgabmgkocaaRG9
namespace Go.Proofs.Ythjllgabmgkocaa
open Go.E2 Go.Wage
theorem foll_mono {p : Pl} {lo hi : Int} {log : List Sg} {k : Nat} (h : lo ≤ hi) (hf : follB p hi log k = true) : follB p lo log k = true := by
  unfold follB at *
  rw [Bool.and_eq_true_iff] at *
  refine ⟨hf.1, ?_⟩
  have h2 := hf.2
  unfold ruleB at *
  have hc : costS p hi (log.getD k default) = true → costS p lo (log.getD k default) = true := fun hh => by
    unfold costS at *
    cases hd : denS p (log.getD k default) with
    | none => rw [hd] at hh; exact hh
    | some ro =>
      rw [hd] at hh
      simp only [decide_eq_true_eq] at hh ⊢
      exact Int.le_trans h hh
  grind
theorem step_mono {p : Pl} {lo hi k : Int} {log : List Sg} (h : lo ≤ hi) (hf : stepB p hi log k = true) : stepB p lo log k = true := by
  unfold stepB at *
  rw [Bool.and_eq_true_iff] at *
  exact ⟨hf.1, foll_mono h hf.2⟩
theorem check_mono {p : Pl} {lo hi : Int} {log : List Sg} (h : lo ≤ hi) (hf : checkB p hi log = true) : checkB p lo log = true := by
  unfold checkB at *
  simp only [Bool.and_eq_true, List.all_eq_true] at *
  exact ⟨⟨hf.1.1, fun k hk => foll_mono h (hf.1.2 k hk)⟩, hf.2⟩
set_option maxRecDepth 4000 in
set_option maxHeartbeats 4000000 in
theorem dBounds_all (p : Pl) (a b : Int) (log : List Sg) (k : Int) (hz : PlZ p) (hl : LogZ log) :
    FnA Try.prog 3 [.agg (pcs p), I a, I b, .sl 3 (log.map sgav), I k] (B true) := by
  have c0 := dHead_ok
  have c1 := dSmall_ok p log hz hl
  by_cases hs : smallG p log = true
  · obtain ⟨h1, h2⟩ := smallG_s hs
    rw [hs] at c1
    have k1 := uCheck_ok p (max a b) log h1 h2
    have k2 := uCheck_ok p (min a b) log h1 h2
    have s1 := uStep_ok p (max a b) log k h1 h2
    have s2 := uStep_ok p (min a b) log k h1 h2
    have hm : min a b ≤ max a b := by omega
    have m1 := check_mono (p := p) (log := log) hm
    have m2 := step_mono (p := p) (log := log) (k := k) hm
    have mb : ((!checkB p (max a b) log || checkB p (min a b) log) && (!stepB p (max a b) log k || stepB p (min a b) log k)) = true := by
      cases e1 : checkB p (max a b) log <;> cases e2 : stepB p (max a b) log k <;> simp [e1, e2, m1, m2]
    refine fn_run (T := tab) Try.func3 rfl Try.ntmps3 rfl Try.results3 (fun _ => ?_)
    repeat' ((conv => whnf) <;> (first | refine Must.mk (fun h => h) ?_ | refine Must.mk (fun _ => rfl) ?_ | refine Must.mk Qw ?_ | refine MW.ok Qw ?_ | intro _ | exact Fin.pure rfl | refine Br.tt ?_ | refine Br.ff ?_ | (refine Br.mk (fun h => ?_) (fun h => ?_) <;> (try simp only [sh] at h) <;> (try first | (exfalso; omega) | exact absurd trivial h | (exfalso; simp at h; done))) | refine Ix.at ‹_› Qw ?_ | refine Ix.mapN Qw ?_ | refine Ix.mapN1 Qw ?_ | refine Ix.map Qw ?_ | refine Ix.at Qi Qw ?_ | refine LK.callA ent6 (c0) rfl rfl (SbL.refl _) ?_ | refine Ask.callA ent6 (fun h => c0) rfl rfl (SbL.refl _) ?_ | refine LK.callA ent6 (c0) rfl rfl Ql ?_ | refine Ask.callA ent6 (fun h => c0) rfl rfl Ql ?_ | refine LK.callA ent7 (c1) rfl rfl (SbL.refl _) ?_ | refine Ask.callA ent7 (fun h => c1) rfl rfl (SbL.refl _) ?_ | refine LK.callA ent7 (c1) rfl rfl Ql ?_ | refine Ask.callA ent7 (fun h => c1) rfl rfl Ql ?_ | refine LK.callA ent8 (k1) rfl rfl (SbL.refl _) ?_ | refine Ask.callA ent8 (fun h => k1) rfl rfl (SbL.refl _) ?_ | refine LK.callA ent8 (k1) rfl rfl Ql ?_ | refine Ask.callA ent8 (fun h => k1) rfl rfl Ql ?_ | refine LK.callA ent8 (k2) rfl rfl (SbL.refl _) ?_ | refine Ask.callA ent8 (fun h => k2) rfl rfl (SbL.refl _) ?_ | refine LK.callA ent8 (k2) rfl rfl Ql ?_ | refine Ask.callA ent8 (fun h => k2) rfl rfl Ql ?_ | refine LK.callA ent9 (s1) rfl rfl (SbL.refl _) ?_ | refine Ask.callA ent9 (fun h => s1) rfl rfl (SbL.refl _) ?_ | refine LK.callA ent9 (s1) rfl rfl Ql ?_ | refine Ask.callA ent9 (fun h => s1) rfl rfl Ql ?_ | refine LK.callA ent9 (s2) rfl rfl (SbL.refl _) ?_ | refine Ask.callA ent9 (fun h => s2) rfl rfl (SbL.refl _) ?_ | refine LK.callA ent9 (s2) rfl rfl Ql ?_ | refine Ask.callA ent9 (fun h => s2) rfl rfl Ql ?_ | refine lB (T := tab) ?_ | refine lBA (T := tab) ?_ | refine LK.askW rfl ?_ | refine s1 ?_ | refine sA ?_ | refine CK.any false Qk ?_ | fail))
    all_goals (conv => whnf)
    all_goals (refine Fin.pure (congrArg B ?_))
    all_goals grind
  · rw [Bool.eq_false_iff.2 hs] at c1
    refine fn_run (T := tab) Try.func3 rfl Try.ntmps3 rfl Try.results3 (fun _ => ?_)
    repeat' ((conv => whnf) <;> (first | refine Must.mk (fun h => h) ?_ | refine Must.mk (fun _ => rfl) ?_ | refine Must.mk Qw ?_ | refine MW.ok Qw ?_ | intro _ | exact Fin.pure rfl | refine Fin.pure ?_ | refine Br.tt ?_ | refine Br.ff ?_ | (refine Br.mk (fun h => ?_) (fun h => ?_) <;> (try simp only [sh] at h) <;> (try first | (exfalso; omega) | exact absurd trivial h | (exfalso; simp at h; done))) | refine Ix.at ‹_› Qw ?_ | refine Ix.mapN Qw ?_ | refine Ix.mapN1 Qw ?_ | refine Ix.map Qw ?_ | refine Ix.at Qi Qw ?_ | refine LK.callA ent6 (c0) rfl rfl (SbL.refl _) ?_ | refine Ask.callA ent6 (fun h => c0) rfl rfl (SbL.refl _) ?_ | refine LK.callA ent6 (c0) rfl rfl Ql ?_ | refine Ask.callA ent6 (fun h => c0) rfl rfl Ql ?_ | refine LK.callA ent7 (c1) rfl rfl (SbL.refl _) ?_ | refine Ask.callA ent7 (fun h => c1) rfl rfl (SbL.refl _) ?_ | refine LK.callA ent7 (c1) rfl rfl Ql ?_ | refine Ask.callA ent7 (fun h => c1) rfl rfl Ql ?_ | refine lB (T := tab) ?_ | refine lBA (T := tab) ?_ | refine LK.askW rfl ?_ | refine s1 ?_ | refine sA ?_ | refine CK.any false Qk ?_ | fail))
end Go.Proofs.Ythjllgabmgkocaa
