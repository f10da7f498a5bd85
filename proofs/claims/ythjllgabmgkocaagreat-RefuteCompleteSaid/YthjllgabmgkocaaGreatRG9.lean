/-
  Walks: law21: yes, no, bench, Short, small, head.
  Conditions: those of each theorem.
-/
import Derived.Test.YthjllgabmgkocaaGreatRG8
namespace Go.Proofs.YthjllgabmgkocaaGreat
open Go.E2 Go.Wage
def benchQ : Pl := ⟨⟨ByteArray.empty, 0, []⟩, [⟨600, 660, 1⟩], [⟨ByteArray.empty, 1, false, 100, []⟩, ⟨ByteArray.empty, 0, false, 50, []⟩], ⟨0, 20000, (0, 0), 0⟩⟩
def benchL (r : Int) (f : List Int) : List Sg := [⟨[⟨0, 0, true⟩, ⟨0, 1, true⟩], 1, []⟩, ⟨[⟨0, 0, false⟩], 4, []⟩, ⟨[⟨0, 1, false⟩], r, []⟩, ⟨[], 5, f⟩]
theorem dYes_ok (d w : Int) : FnA Tryz.prog 30 [I d, I w] (ltav ⟨d, w, true⟩) := by
  refine fn_run (T := tab) Tryz.func30 rfl Tryz.ntmps30 rfl Tryz.results30 (fun _ => ?_)
  repeat' ((conv => whnf) <;> (first | refine Must.mk (fun h => h) ?_ | refine Must.mk (fun _ => rfl) ?_ | refine Must.mk Qw ?_ | refine MW.ok Qw ?_ | intro _ | exact Fin.pure rfl | refine Fin.pure ?_ | refine Br.tt ?_ | refine Br.ff ?_ | (refine Br.mk (fun h => ?_) (fun h => ?_) <;> (try simp only [sh] at h) <;> (try first | (exfalso; omega) | exact absurd trivial h | (exfalso; simp at h; done))) | refine Ix.at ‹_› Qw ?_ | refine Ix.mapN Qw ?_ | refine Ix.mapN1 Qw ?_ | refine Ix.map Qw ?_ | refine Ix.at Qi Qw ?_ | refine lB (T := tab) ?_ | refine lBA (T := tab) ?_ | refine rA (T := tab) ?_ | refine r1 (T := tab) ?_ | refine LK.askW rfl ?_ | refine s1 ?_ | refine sA ?_ | refine CK.any false Qk ?_ | fail))
theorem dNo_ok (d w : Int) : FnA Tryz.prog 28 [I d, I w] (ltav ⟨d, w, false⟩) := by
  refine fn_run (T := tab) Tryz.func28 rfl Tryz.ntmps28 rfl Tryz.results28 (fun _ => ?_)
  repeat' ((conv => whnf) <;> (first | refine Must.mk (fun h => h) ?_ | refine Must.mk (fun _ => rfl) ?_ | refine Must.mk Qw ?_ | refine MW.ok Qw ?_ | intro _ | exact Fin.pure rfl | refine Fin.pure ?_ | refine Br.tt ?_ | refine Br.ff ?_ | (refine Br.mk (fun h => ?_) (fun h => ?_) <;> (try simp only [sh] at h) <;> (try first | (exfalso; omega) | exact absurd trivial h | (exfalso; simp at h; done))) | refine Ix.at ‹_› Qw ?_ | refine Ix.mapN Qw ?_ | refine Ix.mapN1 Qw ?_ | refine Ix.map Qw ?_ | refine Ix.at Qi Qw ?_ | refine lB (T := tab) ?_ | refine lBA (T := tab) ?_ | refine rA (T := tab) ?_ | refine r1 (T := tab) ?_ | refine LK.askW rfl ?_ | refine s1 ?_ | refine sA ?_ | refine CK.any false Qk ?_ | fail))
set_option maxHeartbeats 4000000 in
theorem dBench_ok (r : Int) (f : List Int) : FnA Tryz.prog 17 [I r, .sl 1 (f.map I)] (.tup [.agg (pcs benchQ), .sl 3 ((benchL r f).map sgav)]) := by
  have y0 := dYes_ok 0 0
  have y1 := dYes_ok 0 1
  have n0 := dNo_ok 0 0
  have n1 := dNo_ok 0 1
  refine fn_run (T := tab) Tryz.func17 rfl Tryz.ntmps17 rfl Tryz.results17 (fun _ => ?_)
  repeat' ((conv => whnf) <;> (first | refine Ask.of (Gr.see 18 rfl (Sb.agg (.cons (.refl _) (.cons (.refl _) (.cons (Sb.nil (k := 1)) .nil)))) (Gr.see 21 rfl (Sb.agg (.cons (.refl _) (.cons (.refl _) (.cons (Sb.nil (k := 1)) .nil)))) (Gr.see 25 rfl (Sb.agg (.cons (.refl _) (.cons (.refl _) (.cons (Sb.nil (k := 1)) .nil)))) (Gr.see 27 rfl (Sb.agg (.cons (Sb.nil (k := 3)) (.cons (.refl _) (.cons (.refl _) .nil)))) (Gr.bslV (T := tab) rfl rfl rfl rfl))))) ?_ | refine LK.see 10 rfl (Sb.agg (.cons (.refl _) (.cons (.refl _) (.cons (.refl _) (.cons (.refl _) (.cons (Sb.nil (k := 2)) .nil)))))) ?_ | refine LK.see 9 rfl (Sb.agg (.cons (.refl _) (.cons (.refl _) (.cons (.refl _) (.cons (.refl _) (.cons (Sb.nil (k := 2)) .nil)))))) ?_ | refine CK.anyK [0, 1, 2, 3, 4, 5, 6, 7, 8, 9, 10, 11, 12, 13, 14] [15, 16] _ (List.Sublist.cons_cons _ (List.Sublist.cons _ (List.Sublist.refl _))) Qk ?_ | refine Must.mk (fun h => h) ?_ | refine Must.mk (fun _ => rfl) ?_ | refine Must.mk Qw ?_ | refine MW.ok Qw ?_ | intro _ | exact Fin.pure rfl | refine Br.tt ?_ | refine Br.ff ?_ | (refine Br.mk (fun h => ?_) (fun h => ?_) <;> (try simp only [sh] at h) <;> (try first | (exfalso; omega) | exact absurd trivial h | (exfalso; simp at h; done))) | refine Ix.at ‹_› Qw ?_ | refine Ix.mapN Qw ?_ | refine Ix.mapN1 Qw ?_ | refine Ix.map Qw ?_ | refine Ix.at Qi Qw ?_ | refine LK.callA ent30 (y0) rfl rfl (SbL.refl _) ?_ | refine Ask.callA ent30 (fun h => y0) rfl rfl (SbL.refl _) ?_ | refine LK.callA ent30 (y0) rfl rfl Ql ?_ | refine Ask.callA ent30 (fun h => y0) rfl rfl Ql ?_ | refine LK.callA ent30 (y1) rfl rfl (SbL.refl _) ?_ | refine Ask.callA ent30 (fun h => y1) rfl rfl (SbL.refl _) ?_ | refine LK.callA ent30 (y1) rfl rfl Ql ?_ | refine Ask.callA ent30 (fun h => y1) rfl rfl Ql ?_ | refine LK.callA ent28 (n0) rfl rfl (SbL.refl _) ?_ | refine Ask.callA ent28 (fun h => n0) rfl rfl (SbL.refl _) ?_ | refine LK.callA ent28 (n0) rfl rfl Ql ?_ | refine Ask.callA ent28 (fun h => n0) rfl rfl Ql ?_ | refine LK.callA ent28 (n1) rfl rfl (SbL.refl _) ?_ | refine Ask.callA ent28 (fun h => n1) rfl rfl (SbL.refl _) ?_ | refine LK.callA ent28 (n1) rfl rfl Ql ?_ | refine Ask.callA ent28 (fun h => n1) rfl rfl Ql ?_ | refine lB (T := tab) ?_ | refine lBA (T := tab) ?_ | refine rA (T := tab) ?_ | refine r1 (T := tab) ?_ | refine LK.askW rfl ?_ | refine s1 ?_ | refine sA ?_ | refine LK.gr (Gr.bslV (T := tab) rfl rfl rfl rfl) ?_ | refine Ask.of (Gr.bslV (T := tab) rfl rfl rfl rfl) ?_ | refine Kx.nil ?_ | refine Kx.stp (T := tab) rfl rfl Qs ?_ | refine kA (T := tab) ?_ | (refine Kx.frzR 0 rfl ?_ <;> refine kF (T := tab) ?_) | refine kP (T := tab) ?_ | refine k1 (T := tab) ?_ | refine kB (T := tab) ?_ | refine kL (T := tab) ?_ | refine CK.any false Qk ?_ | refine CK.any true Qk ?_ | fail))
  conv => whnf
  exact Fin.seeP (Sb.tup (.cons (Sb.agg (.cons (.refl _) (.cons (.refl _) (.cons (Sb.nil (k := 2)) (SbL.refl _))))) (.cons (.refl _) .nil)))
def shortB (log : List Sg) (most : Int) : Bool := decide (log.length ≤ most) && log.all fun s => decide (s.cl.length ≤ 30) && decide (s.frm.length ≤ 80)
theorem shortB_iff {log : List Sg} {most : Int} : shortB log most = true ↔ log.length ≤ most ∧ ∀ s ∈ log, s.cl.length ≤ 30 ∧ s.frm.length ≤ 80 := by
  unfold shortB
  simp only [Bool.and_eq_true, decide_eq_true_eq, List.all_eq_true]
structure LogZ (log : List Sg) : Prop where
  l : log.length ≤ 9223372036854775807
  cl : ∀ s ∈ log, s.cl.length ≤ 9223372036854775807 ∧ s.frm.length ≤ 9223372036854775807
set_option maxHeartbeats 4000000 in
theorem bShort_ok (log : List Sg) (most : Int) (hz : LogZ log) : FnA Tryz.prog 18 [.sl 3 (log.map sgav), I most] (B (shortB log most)) := by
  have hll := hz.l
  have hlg : (log.map sgav).length = log.length := by simp
  have hno : ¬ shortB log most = true → (AV.v (.bool false)) = B (shortB log most) := fun h => congrArg B (Bool.eq_false_iff.2 h).symm
  refine fn_run (T := tab) Tryz.func18 rfl Tryz.ntmps18 rfl Tryz.results18 (fun _ => ?_)
  repeat' ((conv => whnf) <;> (first | refine Must.mk (fun h => h) ?_ | refine Must.mk (fun _ => rfl) ?_ | refine Must.mk Qw ?_ | refine MW.ok Qw ?_ | intro _ | exact Fin.pure rfl | refine Fin.pure ?_ | refine Br.tt ?_ | refine Br.ff ?_ | (refine Br.mk (fun h => ?_) (fun h => ?_) <;> (try simp only [sh] at h) <;> (try first | (exfalso; omega) | exact absurd trivial h | (exfalso; simp at h; done))) | refine Ix.at ‹_› Qw ?_ | refine Ix.mapN Qw ?_ | refine Ix.mapN1 Qw ?_ | refine Ix.map Qw ?_ | refine Ix.at Qi Qw ?_ | refine lB (T := tab) ?_ | refine lBA (T := tab) ?_ | refine rA (T := tab) ?_ | refine r1 (T := tab) ?_ | refine LK.askW rfl ?_ | refine s1 ?_ | refine sA ?_ | refine CK.any false Qk ?_ | fail))
  · exact hno fun hp => by have := (shortB_iff.1 hp).1; omega
  repeat' ((conv => whnf) <;> (first | refine Must.mk (fun h => h) ?_ | refine Must.mk (fun _ => rfl) ?_ | refine Must.mk Qw ?_ | refine MW.ok Qw ?_ | intro _ | exact Fin.pure rfl | refine Fin.pure ?_ | refine Br.tt ?_ | refine Br.ff ?_ | (refine Br.mk (fun h => ?_) (fun h => ?_) <;> (try simp only [sh] at h) <;> (try first | (exfalso; omega) | exact absurd trivial h | (exfalso; simp at h; done))) | refine Ix.at ‹_› Qw ?_ | refine Ix.mapN Qw ?_ | refine Ix.mapN1 Qw ?_ | refine Ix.map Qw ?_ | refine Ix.at Qi Qw ?_ | refine lB (T := tab) ?_ | refine lBA (T := tab) ?_ | refine rA (T := tab) ?_ | refine r1 (T := tab) ?_ | refine LK.askW rfl ?_ | refine s1 ?_ | refine sA ?_ | refine CK.any false Qk ?_ | fail))
  (conv => whnf); refine CK.loop [4, 5, 10, 11, 12, 13, 14, 15, 16, 17, 18, 19, 20, 21, 22, 23, 24, 25, 26, 27, 28, 29, 30, 31] (σ := Nat) (fun k => k ≤ log.length ∧ ∀ s ∈ log.take k, s.cl.length ≤ 30 ∧ s.frm.length ≤ 80) (fun k => [(5, I k)]) (fun _ => _) (fun k => log.length - k) 0 ⟨Nat.zero_le _, by simp⟩ Qy (List.Sublist.refl _) ?_
  conv => whnf
  rintro k ⟨i1, i2⟩
  by_cases hk : k < log.length
  · have hc := hz.cl _ (gAt hk)
    have hlc : ((log.getD k default).cl.map ltav).length = (log.getD k default).cl.length := by simp
    have hlf : ((log.getD k default).frm.map I).length = (log.getD k default).frm.length := by simp
    repeat' ((conv => whnf) <;> (first | (refine Nxt.of (k + 1) [4, 5, 10, 11, 12, 13, 14, 15, 16, 17, 18, 19, 20, 21, 22, 23, 24, 25, 26, 27, 28, 29, 30, 31] Qr Qr Qr ?_ ?_ Qy Qs <;> (try dsimp only) <;> (try omega)) | refine Must.mk (fun h => h) ?_ | refine Must.mk (fun _ => rfl) ?_ | refine Must.mk Qw ?_ | refine MW.ok Qw ?_ | intro _ | exact Fin.pure rfl | refine Fin.pure ?_ | refine Br.tt ?_ | refine Br.ff ?_ | (refine Br.mk (fun h => ?_) (fun h => ?_) <;> (try simp only [sh] at h) <;> (try first | (exfalso; omega) | exact absurd trivial h | (exfalso; simp at h; done))) | refine Ix.at ‹_› Qw ?_ | refine Ix.mapN Qw ?_ | refine Ix.mapN1 Qw ?_ | refine Ix.map Qw ?_ | refine Ix.at Qi Qw ?_ | refine lB (T := tab) ?_ | refine lBA (T := tab) ?_ | refine rA (T := tab) ?_ | refine r1 (T := tab) ?_ | refine LK.askW rfl ?_ | refine s1 ?_ | refine sA ?_ | refine CK.any false Qk ?_ | fail))
    · exact hno fun hp => by have := (shortB_iff.1 hp).2 _ (gAt hk); omega
    · refine ⟨hk, fun s hs => ?_⟩
      rw [take_snoc hk, List.mem_append, List.mem_singleton] at hs
      rcases hs with hs | rfl
      · exact i2 s hs
      · omega
  · repeat' ((conv => whnf) <;> (first | refine Must.mk (fun h => h) ?_ | refine Must.mk (fun _ => rfl) ?_ | refine Must.mk Qw ?_ | refine MW.ok Qw ?_ | intro _ | exact Fin.pure rfl | refine Fin.pure ?_ | refine Br.tt ?_ | refine Br.ff ?_ | (refine Br.mk (fun h => ?_) (fun h => ?_) <;> (try simp only [sh] at h) <;> (try first | (exfalso; omega) | exact absurd trivial h | (exfalso; simp at h; done))) | refine Ix.at ‹_› Qw ?_ | refine Ix.mapN Qw ?_ | refine Ix.mapN1 Qw ?_ | refine Ix.map Qw ?_ | refine Ix.at Qi Qw ?_ | refine lB (T := tab) ?_ | refine lBA (T := tab) ?_ | refine rA (T := tab) ?_ | refine r1 (T := tab) ?_ | refine LK.askW rfl ?_ | refine s1 ?_ | refine sA ?_ | refine CK.any false Qk ?_ | fail))
    rw [List.take_of_length_le (by omega)] at i2
    exact congrArg B (shortB_iff.2 ⟨by omega, i2⟩).symm
def smallG (p : Pl) (log : List Sg) : Bool := smallV p [] 9 && shortB log 60
theorem dSmall_ok (p : Pl) (log : List Sg) (hz : PlZ p) (h : LogZ log) : FnA Tryz.prog 8 [.agg (pcs p), .sl 3 (log.map sgav)] (B (smallG p log)) := by
  have c1 := vSmall_ok p [] 9 hz.ch hz.wk (by simp) hz.aw
  have c2 := bShort_ok log 60 h
  refine fn_run (T := tab) Tryz.func8 rfl Tryz.ntmps8 rfl Tryz.results8 (fun _ => ?_)
  repeat' ((conv => whnf) <;> (first | refine Must.mk (fun h => h) ?_ | refine Must.mk (fun _ => rfl) ?_ | refine Must.mk Qw ?_ | refine MW.ok Qw ?_ | intro _ | exact Fin.pure rfl | refine Fin.pure ?_ | refine Br.tt ?_ | refine Br.ff ?_ | (refine Br.mk (fun h => ?_) (fun h => ?_) <;> (try simp only [sh] at h) <;> (try first | (exfalso; omega) | exact absurd trivial h | (exfalso; simp at h; done))) | refine Ix.at ‹_› Qw ?_ | refine Ix.mapN Qw ?_ | refine Ix.mapN1 Qw ?_ | refine Ix.map Qw ?_ | refine Ix.at Qi Qw ?_ | refine LK.callA ent13 (c1) rfl rfl (SbL.refl _) ?_ | refine Ask.callA ent13 (fun h => c1) rfl rfl (SbL.refl _) ?_ | refine LK.callA ent13 (c1) rfl rfl Ql ?_ | refine Ask.callA ent13 (fun h => c1) rfl rfl Ql ?_ | refine LK.callA ent18 (c2) rfl rfl (SbL.refl _) ?_ | refine Ask.callA ent18 (fun h => c2) rfl rfl (SbL.refl _) ?_ | refine LK.callA ent18 (c2) rfl rfl Ql ?_ | refine Ask.callA ent18 (fun h => c2) rfl rfl Ql ?_ | refine lB (T := tab) ?_ | refine lBA (T := tab) ?_ | refine rA (T := tab) ?_ | refine r1 (T := tab) ?_ | refine LK.askW rfl ?_ | refine s1 ?_ | refine sA ?_ | refine CK.any false Qk ?_ | fail))
theorem smallG_s {p : Pl} {log : List Sg} (h : smallG p log = true) : Small p ∧ LogS log := by
  unfold smallG at h
  rw [Bool.and_eq_true_iff] at h
  have h2 := shortB_iff.1 h.2
  exact ⟨small_of h.1, ⟨by omega, fun s hs => by have := h2.2 s hs; omega⟩⟩
theorem q_c1 : checkB benchQ 6000 (benchL 3 [1, 2, 0]) = true := by decide +kernel
theorem q_c2 : checkB benchQ 6001 (benchL 3 [1, 2, 0]) = false := by decide +kernel
theorem q_c3 : checkB benchQ 6000 (benchL 4 [1, 2, 0]) = false := by decide +kernel
theorem q_c4 : checkB benchQ 6000 (benchL 3 [0, 1, 2]) = false := by decide +kernel
theorem q_s1 : stepB benchQ 6000 (benchL 3 [1, 2, 0]) 2 = true := by decide +kernel
theorem q_s2 : stepB benchQ 6000 (benchL 3 [1, 2, 0]) 4 = false := by decide +kernel
theorem q_c5 : checkB benchQ 0 [] = false := by decide +kernel
theorem q_small : Small benchQ := ⟨by decide, by decide, by decide, by decide⟩
theorem q_log (r : Int) (f : List Int) (hf : f.length ≤ 100) : LogS (benchL r f) := ⟨by simp [benchL], fun s hs => by
  simp only [benchL, List.mem_cons, List.not_mem_nil, or_false] at hs
  rcases hs with rfl | rfl | rfl | rfl <;> simp
  omega⟩
set_option maxHeartbeats 4000000 in
theorem dHead_ok : FnA Tryz.prog 7 [] (B true) := by
  have b1 := dBench_ok 3 [1, 2, 0]
  have b2 := dBench_ok 4 [1, 2, 0]
  have b3 := dBench_ok 3 [0, 1, 2]
  have k1 := uCheck_ok benchQ 6000 (benchL 3 [1, 2, 0]) q_small (q_log _ _ (by decide))
  have k2 := uCheck_ok benchQ 6001 (benchL 3 [1, 2, 0]) q_small (q_log _ _ (by decide))
  have k3 := uCheck_ok benchQ 6000 (benchL 4 [1, 2, 0]) q_small (q_log _ _ (by decide))
  have k4 := uCheck_ok benchQ 6000 (benchL 3 [0, 1, 2]) q_small (q_log _ _ (by decide))
  have k5 := uCheck_ok benchQ 0 [] q_small ⟨by decide, by simp⟩
  have s1 := uStep_ok benchQ 6000 (benchL 3 [1, 2, 0]) 2 q_small (q_log _ _ (by decide))
  have s2 := uStep_ok benchQ 6000 (benchL 3 [1, 2, 0]) 4 q_small (q_log _ _ (by decide))
  rw [q_c1] at k1
  rw [q_c2] at k2
  rw [q_c3] at k3
  rw [q_c4] at k4
  rw [q_c5] at k5
  rw [q_s1] at s1
  rw [q_s2] at s2
  refine fn_run (T := tab) Tryz.func7 rfl Tryz.ntmps7 rfl Tryz.results7 (fun _ => ?_)
  repeat' ((conv => whnf) <;> (first | refine Must.mk (fun h => h) ?_ | refine Must.mk (fun _ => rfl) ?_ | refine Must.mk Qw ?_ | refine MW.ok Qw ?_ | intro _ | exact Fin.pure rfl | refine Fin.pure ?_ | refine Br.tt ?_ | refine Br.ff ?_ | (refine Br.mk (fun h => ?_) (fun h => ?_) <;> (try simp only [sh] at h) <;> (try first | (exfalso; omega) | exact absurd trivial h | (exfalso; simp at h; done))) | refine Ix.at ‹_› Qw ?_ | refine Ix.mapN Qw ?_ | refine Ix.mapN1 Qw ?_ | refine Ix.map Qw ?_ | refine Ix.at Qi Qw ?_ | refine LK.callA ent17 (b1) rfl rfl (SbL.refl _) ?_ | refine Ask.callA ent17 (fun h => b1) rfl rfl (SbL.refl _) ?_ | refine LK.callA ent17 (b1) rfl rfl Ql ?_ | refine Ask.callA ent17 (fun h => b1) rfl rfl Ql ?_ | refine LK.callA ent17 (b2) rfl rfl (SbL.refl _) ?_ | refine Ask.callA ent17 (fun h => b2) rfl rfl (SbL.refl _) ?_ | refine LK.callA ent17 (b2) rfl rfl Ql ?_ | refine Ask.callA ent17 (fun h => b2) rfl rfl Ql ?_ | refine LK.callA ent17 (b3) rfl rfl (SbL.refl _) ?_ | refine Ask.callA ent17 (fun h => b3) rfl rfl (SbL.refl _) ?_ | refine LK.callA ent17 (b3) rfl rfl Ql ?_ | refine Ask.callA ent17 (fun h => b3) rfl rfl Ql ?_ | refine LK.callA ent11 (k1) rfl rfl (SbL.refl _) ?_ | refine Ask.callA ent11 (fun h => k1) rfl rfl (SbL.refl _) ?_ | refine LK.callA ent11 (k1) rfl rfl Ql ?_ | refine Ask.callA ent11 (fun h => k1) rfl rfl Ql ?_ | refine LK.callA ent11 (k2) rfl rfl (SbL.refl _) ?_ | refine Ask.callA ent11 (fun h => k2) rfl rfl (SbL.refl _) ?_ | refine LK.callA ent11 (k2) rfl rfl Ql ?_ | refine Ask.callA ent11 (fun h => k2) rfl rfl Ql ?_ | refine LK.callA ent11 (k3) rfl rfl (SbL.refl _) ?_ | refine Ask.callA ent11 (fun h => k3) rfl rfl (SbL.refl _) ?_ | refine LK.callA ent11 (k3) rfl rfl Ql ?_ | refine Ask.callA ent11 (fun h => k3) rfl rfl Ql ?_ | refine LK.callA ent11 (k4) rfl rfl (SbL.refl _) ?_ | refine Ask.callA ent11 (fun h => k4) rfl rfl (SbL.refl _) ?_ | refine LK.callA ent11 (k4) rfl rfl Ql ?_ | refine Ask.callA ent11 (fun h => k4) rfl rfl Ql ?_ | refine LK.callA ent11 (k5) rfl rfl (SbL.refl _) ?_ | refine Ask.callA ent11 (fun h => k5) rfl rfl (SbL.refl _) ?_ | refine LK.callA ent11 (k5) rfl rfl Ql ?_ | refine Ask.callA ent11 (fun h => k5) rfl rfl Ql ?_ | refine LK.callA ent9 (s1) rfl rfl (SbL.refl _) ?_ | refine Ask.callA ent9 (fun h => s1) rfl rfl (SbL.refl _) ?_ | refine LK.callA ent9 (s1) rfl rfl Ql ?_ | refine Ask.callA ent9 (fun h => s1) rfl rfl Ql ?_ | refine LK.callA ent9 (s2) rfl rfl (SbL.refl _) ?_ | refine Ask.callA ent9 (fun h => s2) rfl rfl (SbL.refl _) ?_ | refine LK.callA ent9 (s2) rfl rfl Ql ?_ | refine Ask.callA ent9 (fun h => s2) rfl rfl Ql ?_ | refine lB (T := tab) ?_ | refine lBA (T := tab) ?_ | refine rA (T := tab) ?_ | refine r1 (T := tab) ?_ | refine LK.askW rfl ?_ | refine s1 ?_ | refine sA ?_ | refine LK.gr (Gr.bslV (T := tab) rfl rfl rfl rfl) ?_ | refine Ask.of (Gr.bslV (T := tab) rfl rfl rfl rfl) ?_ | refine CK.any false Qk ?_ | refine CK.any true Qk ?_ | fail))
end Go.Proofs.YthjllgabmgkocaaGreat
