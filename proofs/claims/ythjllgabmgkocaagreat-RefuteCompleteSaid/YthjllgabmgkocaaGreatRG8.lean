/-
  Walks: package refute: Step, Check; what the laws of chapter 21 call small.
  Conditions: those of each theorem.
-/
import Derived.Test.YthjllgabmgkocaaGreatRG7
import Derived.Test.YthjllgabmgkocaaGreatRS
namespace Go.Proofs.YthjllgabmgkocaaGreat
open Go.E2 Go.Wage
/-- logs of a size that can be laid -/
structure LogS (log : List Sg) : Prop where
  l : log.length ≤ 100000
  cl : ∀ s ∈ log, s.cl.length ≤ 100000 ∧ s.frm.length ≤ 100000
theorem LogS.ok {p : Pl} {log : List Sg} (h : LogS log) (hv : validP p = true) : LogOk p log := ⟨hv, h.l, h.cl⟩
set_option maxRecDepth 4000 in
set_option maxHeartbeats 8000000 in
theorem uStep_ok (p : Pl) (bd : Int) (log : List Sg) (k : Int) (hs : Small p) (h : LogS log) : FnA Tryz.prog 9 [.agg (pcs p), I bd, .sl 3 (log.map sgav), I k] (B (stepB p bd log k)) := by
  have c1 := uNew_ok p hs
  have hll := h.l
  have hlg : (log.map sgav).length = log.length := by simp
  by_cases hv : validP p = true
  · rw [nwR, if_pos hv] at c1
    have ho := h.ok hv
    refine fn_run (T := tab) Tryz.func9 rfl Tryz.ntmps9 rfl Tryz.results9 (fun _ => ?_)
    repeat' ((conv => whnf) <;> (first | refine Must.mk (fun h => h) ?_ | refine Must.mk (fun _ => rfl) ?_ | refine Must.mk Qw ?_ | refine MW.ok Qw ?_ | intro _ | exact Fin.pure rfl | refine Br.tt ?_ | refine Br.ff ?_ | (refine Br.mk (fun h => ?_) (fun h => ?_) <;> (try simp only [sh] at h) <;> (try first | (exfalso; omega) | exact absurd trivial h | (exfalso; simp at h; done))) | refine Ix.at ‹_› Qw ?_ | refine Ix.mapN Qw ?_ | refine Ix.mapN1 Qw ?_ | refine Ix.map Qw ?_ | refine Ix.at Qi Qw ?_ | refine LK.callA ent19 (c1) rfl rfl (SbL.refl _) ?_ | refine Ask.callA ent19 (fun h => c1) rfl rfl (SbL.refl _) ?_ | refine LK.callA ent19 (c1) rfl rfl Ql ?_ | refine Ask.callA ent19 (fun h => c1) rfl rfl Ql ?_ | refine lB (T := tab) ?_ | refine lBA (T := tab) ?_ | refine LK.askW rfl ?_ | refine s1 ?_ | refine sA ?_ | refine CK.any false Qk ?_ | fail))
    · conv => whnf
      refine Fin.pure (congrArg B ?_)
      refine (Bool.eq_false_iff.2 fun hc => ?_).symm
      unfold stepB at hc
      simp only [Bool.and_eq_true, decide_eq_true_eq] at hc
      omega
    · have hk0 : 0 ≤ k := by omega
      obtain ⟨n, rfl⟩ := Int.eq_ofNat_of_zero_le hk0
      have hkl : n < log.length := by omega
      have hst : stepB p bd log (n : Int) = follB p bd log n := by
        unfold stepB
        rw [hv, decide_eq_true (by omega), decide_eq_true hk0, decide_eq_true (by omega), Int.toNat_natCast]
        rfl
      repeat' ((conv => whnf) <;> (first | refine Must.mk (fun h => h) ?_ | refine Must.mk (fun _ => rfl) ?_ | refine Must.mk Qw ?_ | refine MW.ok Qw ?_ | intro _ | exact Fin.pure rfl | refine Br.tt ?_ | refine Br.ff ?_ | (refine Br.mk (fun h => ?_) (fun h => ?_) <;> (try simp only [sh] at h) <;> (try first | (exfalso; omega) | exact absurd trivial h | (exfalso; simp at h; done))) | refine Ix.at ‹_› Qw ?_ | refine Ix.mapN Qw ?_ | refine Ix.mapN1 Qw ?_ | refine Ix.map Qw ?_ | refine Ix.at Qi Qw ?_ | (refine LK.callL ent20 (uFol_ok (p := p) (bd := bd) (log := log) (cur := 0) Qj n ho hkl) rfl rfl Ql (fun _ _ hcall => ?_) <;> obtain ⟨rfl, rfl⟩ := hcall) | refine lB (T := tab) ?_ | refine lBA (T := tab) ?_ | refine LK.askW rfl ?_ | refine s1 ?_ | refine sA ?_ | refine CK.any false Qk ?_ | fail))
      conv => whnf
      refine Fin.pure (congrArg B ?_)
      exact hst.symm
  · rw [nwR, if_neg hv] at c1
    refine fn_run (T := tab) Tryz.func9 rfl Tryz.ntmps9 rfl Tryz.results9 (fun _ => ?_)
    repeat' ((conv => whnf) <;> (first | refine Must.mk (fun h => h) ?_ | refine Must.mk (fun _ => rfl) ?_ | refine Must.mk Qw ?_ | refine MW.ok Qw ?_ | intro _ | exact Fin.pure rfl | refine Br.tt ?_ | refine Br.ff ?_ | (refine Br.mk (fun h => ?_) (fun h => ?_) <;> (try simp only [sh] at h) <;> (try first | (exfalso; omega) | exact absurd trivial h | (exfalso; simp at h; done))) | refine Ix.at ‹_› Qw ?_ | refine Ix.mapN Qw ?_ | refine Ix.mapN1 Qw ?_ | refine Ix.map Qw ?_ | refine Ix.at Qi Qw ?_ | refine LK.callA ent19 (c1) rfl rfl (SbL.refl _) ?_ | refine Ask.callA ent19 (fun h => c1) rfl rfl (SbL.refl _) ?_ | refine LK.callA ent19 (c1) rfl rfl Ql ?_ | refine Ask.callA ent19 (fun h => c1) rfl rfl Ql ?_ | refine lB (T := tab) ?_ | refine lBA (T := tab) ?_ | refine LK.askW rfl ?_ | refine s1 ?_ | refine sA ?_ | refine CK.any false Qk ?_ | fail))
    conv => whnf
    refine Fin.pure (congrArg B ?_)
    unfold stepB
    rw [Bool.eq_false_iff.2 hv]
    rfl
set_option maxRecDepth 4000 in
set_option maxHeartbeats 8000000 in
theorem uCheck_ok (p : Pl) (bd : Int) (log : List Sg) (hs : Small p) (h : LogS log) : FnA Tryz.prog 11 [.agg (pcs p), I bd, .sl 3 (log.map sgav)] (B (checkB p bd log)) := by
  have c1 := uNew_ok p hs
  have hll := h.l
  have hlg : (log.map sgav).length = log.length := by simp
  by_cases hv : validP p = true
  · rw [nwR, if_pos hv] at c1
    have ho := h.ok hv
    refine fn_run (T := tab) Tryz.func11 rfl Tryz.ntmps11 rfl Tryz.results11 (fun _ => ?_)
    repeat' ((conv => whnf) <;> (first | refine Must.mk (fun h => h) ?_ | refine Must.mk (fun _ => rfl) ?_ | refine Must.mk Qw ?_ | refine MW.ok Qw ?_ | intro _ | exact Fin.pure rfl | refine Br.tt ?_ | refine Br.ff ?_ | (refine Br.mk (fun h => ?_) (fun h => ?_) <;> (try simp only [sh] at h) <;> (try first | (exfalso; omega) | exact absurd trivial h | (exfalso; simp at h; done))) | refine Ix.at ‹_› Qw ?_ | refine Ix.mapN Qw ?_ | refine Ix.mapN1 Qw ?_ | refine Ix.map Qw ?_ | refine Ix.at Qi Qw ?_ | refine LK.callA ent19 (c1) rfl rfl (SbL.refl _) ?_ | refine Ask.callA ent19 (fun h => c1) rfl rfl (SbL.refl _) ?_ | refine LK.callA ent19 (c1) rfl rfl Ql ?_ | refine Ask.callA ent19 (fun h => c1) rfl rfl Ql ?_ | refine lB (T := tab) ?_ | refine lBA (T := tab) ?_ | refine LK.askW rfl ?_ | refine s1 ?_ | refine sA ?_ | refine CK.any false Qk ?_ | fail))
    · conv => whnf
      refine Fin.pure (congrArg B ?_)
      refine (Bool.eq_false_iff.2 fun hc => ?_).symm
      unfold checkB at hc
      simp only [Bool.and_eq_true, decide_eq_true_eq] at hc
      omega
    have hl1 : 1 ≤ log.length := by omega
    have hl2 : log.length ≤ 20000 := by omega
    have hst : checkB p bd log = ((List.range log.length).all (follB p bd log) && decide ((log.getD (log.length - 1) default).cl.length = 0)) := by
      unfold checkB
      rw [hv, decide_eq_true hl1, decide_eq_true hl2]
      rfl
    rename_i g
    repeat' ((conv => whnf) <;> (first | refine Must.mk (fun h => h) ?_ | refine Must.mk (fun _ => rfl) ?_ | refine Must.mk Qw ?_ | refine MW.ok Qw ?_ | intro _ | exact Fin.pure rfl | refine Br.tt ?_ | refine Br.ff ?_ | (refine Br.mk (fun h => ?_) (fun h => ?_) <;> (try simp only [sh] at h) <;> (try first | (exfalso; omega) | exact absurd trivial h | (exfalso; simp at h; done))) | refine Ix.at ‹_› Qw ?_ | refine Ix.mapN Qw ?_ | refine Ix.mapN1 Qw ?_ | refine Ix.map Qw ?_ | refine Ix.at Qi Qw ?_ | refine lB (T := tab) ?_ | refine lBA (T := tab) ?_ | refine LK.askW rfl ?_ | refine s1 ?_ | refine sA ?_ | refine CK.any false Qk ?_ | fail))
    (conv => whnf); refine CK.loopK [6, 10, 35, 36, 37, 38, 39, 40, 41, 42] (σ := Nat × Int) (fun q => q.1 ≤ log.length ∧ (List.range q.1).all (follB p bd log) = true) (fun ⟨k, _⟩ => [(35, I k)]) (fun ⟨_, cur⟩ => [Ck g p bd log cur]) _ (fun q => log.length - q.1) (0, 0) ⟨Nat.zero_le _, rfl⟩ Qy (List.Sublist.refl _) ?_
    conv => whnf
    rintro ⟨k, cur⟩ ⟨i1, i2⟩
    simp only at i1 i2
    by_cases hk : k < log.length
    · repeat' ((conv => whnf) <;> (first | refine Must.mk (fun h => h) ?_ | refine Must.mk (fun _ => rfl) ?_ | refine Must.mk Qw ?_ | refine MW.ok Qw ?_ | intro _ | exact Fin.pure rfl | refine Br.tt ?_ | refine Br.ff ?_ | (refine Br.mk (fun h => ?_) (fun h => ?_) <;> (try simp only [sh] at h) <;> (try first | (exfalso; omega) | exact absurd trivial h | (exfalso; simp at h; done))) | refine Ix.at ‹_› Qw ?_ | refine Ix.mapN Qw ?_ | refine Ix.mapN1 Qw ?_ | refine Ix.map Qw ?_ | refine Ix.at Qi Qw ?_ | (refine LK.callL ent20 (uFol_ok (p := p) (bd := bd) (log := log) (cur := cur) Qj k ho hk) rfl rfl Ql (fun _ _ hcall => ?_) <;> obtain ⟨rfl, rfl⟩ := hcall) | refine lB (T := tab) ?_ | refine lBA (T := tab) ?_ | refine LK.askW rfl ?_ | refine s1 ?_ | refine sA ?_ | refine CK.any false Qk ?_ | fail))
      · conv => whnf
        refine Fin.pure (congrArg B ?_)
        rw [hst, all_fail hk (by assumption), Bool.false_and]
      · (conv => whnf); (refine Nxt.of ((k + 1, (k : Int))) [6, 10, 35, 36, 37, 38, 39, 40, 41, 42] Qr Qr Qr ?_ ?_ Qy ?_ <;> (try dsimp only) <;> (try omega))
        · exact ⟨hk, all_succ i2 (by assumption)⟩
        · exact Qs
    · obtain rfl : k = log.length := by omega
      have hlc : ((log.getD (log.length - 1) default).cl.map ltav).length = (log.getD (log.length - 1) default).cl.length := by simp
      repeat' ((conv => whnf) <;> (first | refine Must.mk (fun h => h) ?_ | refine Must.mk (fun _ => rfl) ?_ | refine Must.mk Qw ?_ | refine MW.ok Qw ?_ | intro _ | exact Fin.pure rfl | refine Br.tt ?_ | refine Br.ff ?_ | (refine Br.mk (fun h => ?_) (fun h => ?_) <;> (try simp only [sh] at h) <;> (try first | (exfalso; omega) | exact absurd trivial h | (exfalso; simp at h; done))) | refine Ix.at ‹_› Qw ?_ | refine Ix.mapN Qw ?_ | refine Ix.mapN1 Qw ?_ | refine Ix.map Qw ?_ | refine Ix.at Qi Qw ?_ | refine lB (T := tab) ?_ | refine lBA (T := tab) ?_ | refine LK.askW rfl ?_ | refine s1 ?_ | refine sA ?_ | refine CK.any false Qk ?_ | fail))
      conv => whnf
      refine Fin.pure (congrArg B ?_)
      have e : (((log.map sgav).length : Int) - 1).toNat = log.length - 1 := by omega
      rw [hst, i2, Bool.true_and, e, List.length_map, decide_eq_decide]
      omega
  · rw [nwR, if_neg hv] at c1
    refine fn_run (T := tab) Tryz.func11 rfl Tryz.ntmps11 rfl Tryz.results11 (fun _ => ?_)
    repeat' ((conv => whnf) <;> (first | refine Must.mk (fun h => h) ?_ | refine Must.mk (fun _ => rfl) ?_ | refine Must.mk Qw ?_ | refine MW.ok Qw ?_ | intro _ | exact Fin.pure rfl | refine Br.tt ?_ | refine Br.ff ?_ | (refine Br.mk (fun h => ?_) (fun h => ?_) <;> (try simp only [sh] at h) <;> (try first | (exfalso; omega) | exact absurd trivial h | (exfalso; simp at h; done))) | refine Ix.at ‹_› Qw ?_ | refine Ix.mapN Qw ?_ | refine Ix.mapN1 Qw ?_ | refine Ix.map Qw ?_ | refine Ix.at Qi Qw ?_ | refine LK.callA ent19 (c1) rfl rfl (SbL.refl _) ?_ | refine Ask.callA ent19 (fun h => c1) rfl rfl (SbL.refl _) ?_ | refine LK.callA ent19 (c1) rfl rfl Ql ?_ | refine Ask.callA ent19 (fun h => c1) rfl rfl Ql ?_ | refine lB (T := tab) ?_ | refine lBA (T := tab) ?_ | refine LK.askW rfl ?_ | refine s1 ?_ | refine sA ?_ | refine CK.any false Qk ?_ | fail))
    conv => whnf
    refine Fin.pure (congrArg B ?_)
    unfold checkB
    rw [Bool.eq_false_iff.2 hv]
    rfl
end Go.Proofs.YthjllgabmgkocaaGreat
