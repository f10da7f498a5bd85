/-
  Walks: package shifts: Valid, ordered, Rest.
  Conditions: those of each theorem.
-/
import Derived.Test.YthjllgabmgkocaaGreatZ1
import Derived.Test.YthjllgabmgkocaaGreatZ4
import Derived.Test.YthjllgabmgkocaaGreatZR
namespace Go.Proofs.YthjllgabmgkocaaGreat
open Go.E2 Go.Wage
def duav (d : Du) : AV := .agg [I d.frm, I d.to_, I d.skill]
theorem hValid_ok (d : Du) : FnA Tryz.prog 66 [duav d] (B (duB d)) := by
  refine fn_run (T := tab) Tryz.func66 rfl Tryz.ntmps66 rfl Tryz.results66 (fun _ => ?_)
  repeat' ((conv => whnf) <;> (first | refine Must.mk (fun h => h) ?_ | refine Must.mk (fun _ => rfl) ?_ | refine Must.mk Qw ?_ | refine MW.ok Qw ?_ | intro _ | exact Fin.pure rfl | refine Fin.pure ?_ | refine Br.tt ?_ | refine Br.ff ?_ | (refine Br.mk (fun h => ?_) (fun h => ?_) <;> (try simp only [sh] at h) <;> (try first | (exfalso; omega) | exact absurd trivial h | (exfalso; simp at h; done))) | refine Ix.at ‹_› Qw ?_ | refine Ix.mapN Qw ?_ | refine Ix.mapN1 Qw ?_ | refine Ix.map Qw ?_ | refine Ix.at Qi Qw ?_ | refine lB (T := tab) ?_ | refine lBA (T := tab) ?_ | refine rA (T := tab) ?_ | refine r1 (T := tab) ?_ | refine LK.askW rfl ?_ | refine s1 ?_ | refine sA ?_ | refine CK.any false Qk ?_ | fail))
  all_goals (refine congrArg B ?_; unfold duB; rw [Bool.eq_iff_iff]; simp only [Bool.and_eq_true, decide_eq_true_eq, Bool.false_eq_true, false_iff]; omega)
theorem hBegin_ok (a b : Int) : FnA Tryz.prog 137 [.agg [I a, I b]] (I a) := by
  refine fn_run (T := tab) Tryz.func137 rfl Tryz.ntmps137 rfl Tryz.results137 (fun _ => ?_)
  repeat' ((conv => whnf) <;> (first | refine Must.mk (fun h => h) ?_ | refine Must.mk (fun _ => rfl) ?_ | refine Must.mk Qw ?_ | refine MW.ok Qw ?_ | intro _ | exact Fin.pure rfl | refine Fin.pure ?_ | refine Br.tt ?_ | refine Br.ff ?_ | (refine Br.mk (fun h => ?_) (fun h => ?_) <;> (try simp only [sh] at h) <;> (try first | (exfalso; omega) | exact absurd trivial h | (exfalso; simp at h; done))) | refine Ix.at ‹_› Qw ?_ | refine Ix.mapN Qw ?_ | refine Ix.mapN1 Qw ?_ | refine Ix.map Qw ?_ | refine Ix.at Qi Qw ?_ | refine Ask.idxAB (T := tab) rfl rfl rfl Qw ?_ | refine lB (T := tab) ?_ | refine lBA (T := tab) ?_ | refine rA (T := tab) ?_ | refine r1 (T := tab) ?_ | refine LK.askW rfl ?_ | refine s1 ?_ | refine sA ?_ | refine CK.any false Qk ?_ | fail))
theorem hEnd_ok (a b : Int) : FnA Tryz.prog 138 [.agg [I a, I b]] (I b) := by
  refine fn_run (T := tab) Tryz.func138 rfl Tryz.ntmps138 rfl Tryz.results138 (fun _ => ?_)
  repeat' ((conv => whnf) <;> (first | refine Must.mk (fun h => h) ?_ | refine Must.mk (fun _ => rfl) ?_ | refine Must.mk Qw ?_ | refine MW.ok Qw ?_ | intro _ | exact Fin.pure rfl | refine Fin.pure ?_ | refine Br.tt ?_ | refine Br.ff ?_ | (refine Br.mk (fun h => ?_) (fun h => ?_) <;> (try simp only [sh] at h) <;> (try first | (exfalso; omega) | exact absurd trivial h | (exfalso; simp at h; done))) | refine Ix.at ‹_› Qw ?_ | refine Ix.mapN Qw ?_ | refine Ix.mapN1 Qw ?_ | refine Ix.map Qw ?_ | refine Ix.at Qi Qw ?_ | refine Ask.idxAB (T := tab) rfl rfl rfl Qw ?_ | refine lB (T := tab) ?_ | refine lBA (T := tab) ?_ | refine rA (T := tab) ?_ | refine r1 (T := tab) ?_ | refine LK.askW rfl ?_ | refine s1 ?_ | refine sA ?_ | refine CK.any false Qk ?_ | fail))
theorem hOrdered_ok (a b c d : Int) : FnA Tryz.prog 136 [.agg [I a, I b], .agg [I c, I d], .fn (.func 137) []] (.tup (if c < a then [.agg [I c, I d], .agg [I a, I b]] else [.agg [I a, I b], .agg [I c, I d]])) := by
  have c1 := hBegin_ok a b
  have c2 := hBegin_ok c d
  refine fn_run (T := tab) Tryz.func136 rfl Tryz.ntmps136 rfl Tryz.results136 (fun _ => ?_)
  repeat' ((conv => whnf) <;> (first | refine Ask.of (Gr.callC ent137 rfl (Sb.refl _) rfl (SbL.refl _) c1) ?_ | refine Ask.of (Gr.callC ent137 rfl (Sb.refl _) rfl (SbL.refl _) c2) ?_ | refine LK.callC ent137 rfl (Sb.refl _) rfl (SbL.refl _) c1 ?_ | refine LK.callC ent137 rfl (Sb.refl _) rfl (SbL.refl _) c2 ?_ | refine CK.anyK [0, 1] [2, 3] _ (List.Sublist.cons _ (List.Sublist.cons _ (List.Sublist.refl _))) Qk ?_ | refine CK.anyK [0, 1] [2, 3] _ (List.Sublist.cons _ (List.Sublist.cons _ (List.Sublist.refl _))) Qk ?_ | refine Must.mk (fun h => h) ?_ | refine Must.mk (fun _ => rfl) ?_ | refine Must.mk Qw ?_ | refine MW.ok Qw ?_ | intro _ | exact Fin.pure rfl | refine Fin.pure ?_ | refine Br.tt ?_ | refine Br.ff ?_ | (refine Br.mk (fun h => ?_) (fun h => ?_) <;> (try simp only [sh] at h) <;> (try first | (exfalso; omega) | exact absurd trivial h | (exfalso; simp at h; done))) | refine Ix.at ‹_› Qw ?_ | refine Ix.mapN Qw ?_ | refine Ix.mapN1 Qw ?_ | refine Ix.map Qw ?_ | refine Ix.at Qi Qw ?_ | refine lB (T := tab) ?_ | refine lBA (T := tab) ?_ | refine rA (T := tab) ?_ | refine r1 (T := tab) ?_ | refine LK.askW rfl ?_ | refine s1 ?_ | refine sA ?_ | refine Kx.nil ?_ | refine Kx.stp (T := tab) rfl rfl Qs ?_ | refine kA (T := tab) ?_ | (refine Kx.frzR 0 rfl ?_ <;> refine kF (T := tab) ?_) | refine kP (T := tab) ?_ | refine k1 (T := tab) ?_ | refine kB (T := tab) ?_ | refine kL (T := tab) ?_ | refine CK.any false Qk ?_ | fail))
  · rw [if_pos h]
  · rw [if_neg (by omega)]
theorem duB_bd {d : Du} (h : duB d = true) : 0 ≤ d.frm ∧ d.frm < d.to_ ∧ d.to_ ≤ 52596000 ∧ d.to_ - d.frm ≤ 1440 ∧ 0 ≤ d.skill ∧ d.skill ≤ 65535 := by
  unfold duB at h
  simpa using h
set_option maxHeartbeats 4000000 in
theorem hRest_ok (a b : Du) : FnA Tryz.prog 122 [duav a, duav b] (I (restR a b)) := by
  have c1 := hValid_ok a
  have c2 := hValid_ok b
  have c3 := hOrdered_ok a.frm a.to_ b.frm b.to_
  have c4 := hBegin_ok a.frm a.to_
  have c5 := hBegin_ok b.frm b.to_
  have c6 := hEnd_ok a.frm a.to_
  have c7 := hEnd_ok b.frm b.to_
  by_cases hv : duB a = true ∧ duB b = true
  · have h1 := duB_bd hv.1
    have h2 := duB_bd hv.2
    by_cases hlt : b.frm < a.frm
    · rw [if_pos hlt] at c3
      refine fn_run (T := tab) Tryz.func122 rfl Tryz.ntmps122 rfl Tryz.results122 (fun _ => ?_)
      repeat' ((conv => whnf) <;> (first | refine Must.mk (fun h => h) ?_ | refine Must.mk (fun _ => rfl) ?_ | refine Must.mk Qw ?_ | refine MW.ok Qw ?_ | intro _ | exact Fin.pure rfl | refine Fin.pure ?_ | refine Br.tt ?_ | refine Br.ff ?_ | (refine Br.mk (fun h => ?_) (fun h => ?_) <;> (try simp only [sh] at h) <;> (try first | (exfalso; omega) | exact absurd trivial h | (exfalso; simp at h; done))) | refine Ix.at ‹_› Qw ?_ | refine Ix.mapN Qw ?_ | refine Ix.mapN1 Qw ?_ | refine Ix.map Qw ?_ | refine Ix.at Qi Qw ?_ | refine Ask.idxAB (T := tab) rfl rfl rfl Qw ?_ | refine LK.callA ent66 (c1) rfl rfl (SbL.refl _) ?_ | refine Ask.callA ent66 (fun h => c1) rfl rfl (SbL.refl _) ?_ | refine LK.callA ent66 (c1) rfl rfl Ql ?_ | refine Ask.callA ent66 (fun h => c1) rfl rfl Ql ?_ | refine LK.callA ent66 (c2) rfl rfl (SbL.refl _) ?_ | refine Ask.callA ent66 (fun h => c2) rfl rfl (SbL.refl _) ?_ | refine LK.callA ent66 (c2) rfl rfl Ql ?_ | refine Ask.callA ent66 (fun h => c2) rfl rfl Ql ?_ | refine LK.callA ent136 (c3) rfl rfl (SbL.refl _) ?_ | refine Ask.callA ent136 (fun h => c3) rfl rfl (SbL.refl _) ?_ | refine LK.callA ent136 (c3) rfl rfl Ql ?_ | refine Ask.callA ent136 (fun h => c3) rfl rfl Ql ?_ | refine LK.callA ent137 (c4) rfl rfl (SbL.refl _) ?_ | refine Ask.callA ent137 (fun h => c4) rfl rfl (SbL.refl _) ?_ | refine LK.callA ent137 (c4) rfl rfl Ql ?_ | refine Ask.callA ent137 (fun h => c4) rfl rfl Ql ?_ | refine LK.callA ent137 (c5) rfl rfl (SbL.refl _) ?_ | refine Ask.callA ent137 (fun h => c5) rfl rfl (SbL.refl _) ?_ | refine LK.callA ent137 (c5) rfl rfl Ql ?_ | refine Ask.callA ent137 (fun h => c5) rfl rfl Ql ?_ | refine LK.callA ent138 (c6) rfl rfl (SbL.refl _) ?_ | refine Ask.callA ent138 (fun h => c6) rfl rfl (SbL.refl _) ?_ | refine LK.callA ent138 (c6) rfl rfl Ql ?_ | refine Ask.callA ent138 (fun h => c6) rfl rfl Ql ?_ | refine LK.callA ent138 (c7) rfl rfl (SbL.refl _) ?_ | refine Ask.callA ent138 (fun h => c7) rfl rfl (SbL.refl _) ?_ | refine LK.callA ent138 (c7) rfl rfl Ql ?_ | refine Ask.callA ent138 (fun h => c7) rfl rfl Ql ?_ | refine lB (T := tab) ?_ | refine lBA (T := tab) ?_ | refine rA (T := tab) ?_ | refine r1 (T := tab) ?_ | refine LK.askW rfl ?_ | refine s1 ?_ | refine sA ?_ | refine LK.gr (Gr.bslV (T := tab) rfl rfl rfl rfl) ?_ | refine Ask.of (Gr.bslV (T := tab) rfl rfl rfl rfl) ?_ | refine Kx.nil ?_ | refine Kx.stp (T := tab) rfl rfl Qs ?_ | refine kA (T := tab) ?_ | (refine Kx.frzR 0 rfl ?_ <;> refine kF (T := tab) ?_) | refine kP (T := tab) ?_ | refine k1 (T := tab) ?_ | refine kB (T := tab) ?_ | refine kL (T := tab) ?_ | refine CK.any false Qk ?_ | refine CK.any true Qk ?_ | fail))
      · exact absurd h (by simp [hv])
      · rw [restR, hv.1, hv.2, if_pos hlt]; rfl
    · rw [if_neg hlt] at c3
      refine fn_run (T := tab) Tryz.func122 rfl Tryz.ntmps122 rfl Tryz.results122 (fun _ => ?_)
      repeat' ((conv => whnf) <;> (first | refine Must.mk (fun h => h) ?_ | refine Must.mk (fun _ => rfl) ?_ | refine Must.mk Qw ?_ | refine MW.ok Qw ?_ | intro _ | exact Fin.pure rfl | refine Fin.pure ?_ | refine Br.tt ?_ | refine Br.ff ?_ | (refine Br.mk (fun h => ?_) (fun h => ?_) <;> (try simp only [sh] at h) <;> (try first | (exfalso; omega) | exact absurd trivial h | (exfalso; simp at h; done))) | refine Ix.at ‹_› Qw ?_ | refine Ix.mapN Qw ?_ | refine Ix.mapN1 Qw ?_ | refine Ix.map Qw ?_ | refine Ix.at Qi Qw ?_ | refine Ask.idxAB (T := tab) rfl rfl rfl Qw ?_ | refine LK.callA ent66 (c1) rfl rfl (SbL.refl _) ?_ | refine Ask.callA ent66 (fun h => c1) rfl rfl (SbL.refl _) ?_ | refine LK.callA ent66 (c1) rfl rfl Ql ?_ | refine Ask.callA ent66 (fun h => c1) rfl rfl Ql ?_ | refine LK.callA ent66 (c2) rfl rfl (SbL.refl _) ?_ | refine Ask.callA ent66 (fun h => c2) rfl rfl (SbL.refl _) ?_ | refine LK.callA ent66 (c2) rfl rfl Ql ?_ | refine Ask.callA ent66 (fun h => c2) rfl rfl Ql ?_ | refine LK.callA ent136 (c3) rfl rfl (SbL.refl _) ?_ | refine Ask.callA ent136 (fun h => c3) rfl rfl (SbL.refl _) ?_ | refine LK.callA ent136 (c3) rfl rfl Ql ?_ | refine Ask.callA ent136 (fun h => c3) rfl rfl Ql ?_ | refine LK.callA ent137 (c4) rfl rfl (SbL.refl _) ?_ | refine Ask.callA ent137 (fun h => c4) rfl rfl (SbL.refl _) ?_ | refine LK.callA ent137 (c4) rfl rfl Ql ?_ | refine Ask.callA ent137 (fun h => c4) rfl rfl Ql ?_ | refine LK.callA ent137 (c5) rfl rfl (SbL.refl _) ?_ | refine Ask.callA ent137 (fun h => c5) rfl rfl (SbL.refl _) ?_ | refine LK.callA ent137 (c5) rfl rfl Ql ?_ | refine Ask.callA ent137 (fun h => c5) rfl rfl Ql ?_ | refine LK.callA ent138 (c6) rfl rfl (SbL.refl _) ?_ | refine Ask.callA ent138 (fun h => c6) rfl rfl (SbL.refl _) ?_ | refine LK.callA ent138 (c6) rfl rfl Ql ?_ | refine Ask.callA ent138 (fun h => c6) rfl rfl Ql ?_ | refine LK.callA ent138 (c7) rfl rfl (SbL.refl _) ?_ | refine Ask.callA ent138 (fun h => c7) rfl rfl (SbL.refl _) ?_ | refine LK.callA ent138 (c7) rfl rfl Ql ?_ | refine Ask.callA ent138 (fun h => c7) rfl rfl Ql ?_ | refine lB (T := tab) ?_ | refine lBA (T := tab) ?_ | refine rA (T := tab) ?_ | refine r1 (T := tab) ?_ | refine LK.askW rfl ?_ | refine s1 ?_ | refine sA ?_ | refine LK.gr (Gr.bslV (T := tab) rfl rfl rfl rfl) ?_ | refine Ask.of (Gr.bslV (T := tab) rfl rfl rfl rfl) ?_ | refine Kx.nil ?_ | refine Kx.stp (T := tab) rfl rfl Qs ?_ | refine kA (T := tab) ?_ | (refine Kx.frzR 0 rfl ?_ <;> refine kF (T := tab) ?_) | refine kP (T := tab) ?_ | refine k1 (T := tab) ?_ | refine kB (T := tab) ?_ | refine kL (T := tab) ?_ | refine CK.any false Qk ?_ | refine CK.any true Qk ?_ | fail))
      · exact absurd h (by simp [hv])
      · rw [restR, hv.1, hv.2, if_neg hlt]; rfl
  · have e : restR a b = -1 := by
      rw [restR, if_neg]
      simpa using hv
    refine fn_run (T := tab) Tryz.func122 rfl Tryz.ntmps122 rfl Tryz.results122 (fun _ => ?_)
    repeat' ((conv => whnf) <;> (first | refine Must.mk (fun h => h) ?_ | refine Must.mk (fun _ => rfl) ?_ | refine Must.mk Qw ?_ | refine MW.ok Qw ?_ | intro _ | exact Fin.pure rfl | refine Br.tt ?_ | refine Br.ff ?_ | (refine Br.mk (fun h => ?_) (fun h => ?_) <;> (try simp only [sh] at h) <;> (try first | (exfalso; omega) | exact absurd trivial h | (exfalso; simp at h; done))) | refine Ix.at ‹_› Qw ?_ | refine Ix.mapN Qw ?_ | refine Ix.mapN1 Qw ?_ | refine Ix.map Qw ?_ | refine Ix.at Qi Qw ?_ | refine LK.callA ent66 (c1) rfl rfl (SbL.refl _) ?_ | refine Ask.callA ent66 (fun h => c1) rfl rfl (SbL.refl _) ?_ | refine LK.callA ent66 (c1) rfl rfl Ql ?_ | refine Ask.callA ent66 (fun h => c1) rfl rfl Ql ?_ | refine LK.callA ent66 (c2) rfl rfl (SbL.refl _) ?_ | refine Ask.callA ent66 (fun h => c2) rfl rfl (SbL.refl _) ?_ | refine LK.callA ent66 (c2) rfl rfl Ql ?_ | refine Ask.callA ent66 (fun h => c2) rfl rfl Ql ?_ | refine lB (T := tab) ?_ | refine lBA (T := tab) ?_ | refine rA (T := tab) ?_ | refine r1 (T := tab) ?_ | refine LK.askW rfl ?_ | refine s1 ?_ | refine sA ?_ | refine CK.any false Qk ?_ | fail))
    · conv => whnf
      rw [e]
      exact Fin.pure rfl
    · exact absurd h hv
theorem z_pre {z : Zo} (hz : validZ z = true) (a b : Int) : z.chs.length ≤ 64 ∧ (strZ z.base z.chs a b).length ≤ 65 ∧ ∀ s ∈ strZ z.base z.chs a b, a ≤ s.1.1 ∧ s.1.1 < s.1.2 ∧ s.1.2 ≤ b ∧ -840 ≤ s.2 ∧ s.2 ≤ 840 := by
  unfold validZ at hz
  simp only [Bool.and_eq_true, decide_eq_true_eq] at hz
  refine ⟨hz.1.1, by have := strZ_len z.chs z.base a b; omega, fun s hs => strZ_mem hs hz.1.2 fun c hc => ?_⟩
  obtain ⟨i, hi, rfl⟩ := List.mem_iff_getElem.1 hc
  have := okC_at hz.2 hi
  simp only [List.getD, List.getElem?_eq_getElem hi, Option.getD_some] at this
  omega
theorem hMinutes_ok (p : Pl) (d : Du) (hz : validZ p.zone = true) : FnA Tryz.prog 33 [.agg (zcs p.zone), duav d] (.tup [.sl 2 ((if dutyOk p d then minsD p d else []).map ptav), I (if dutyOk p d then 0 else if duB d then 21 else 171)]) := by
  have c1 := hValid_ok d
  obtain ⟨q1, q2, q3⟩ := z_pre hz d.frm d.to_
  by_cases hv : duB d = true
  · have hb := duB_bd hv
    have c2 := zSplit_ok p.zone d.frm d.to_ q1 q2 hz q3 (by omega)
    have e : dutyOk p d = splitOk p.zone d.frm d.to_ := by rw [dutyOk, hv, Bool.true_and]
    rw [e, hv]
    refine fn_run (T := tab) Tryz.func33 rfl Tryz.ntmps33 rfl Tryz.results33 (fun _ => ?_)
    repeat' ((conv => whnf) <;> (first | refine Must.mk (fun h => h) ?_ | refine Must.mk (fun _ => rfl) ?_ | refine Must.mk Qw ?_ | refine MW.ok Qw ?_ | intro _ | exact Fin.pure rfl | refine Br.tt ?_ | refine Br.ff ?_ | (refine Br.mk (fun h => ?_) (fun h => ?_) <;> (try simp only [sh] at h) <;> (try first | (exfalso; omega) | exact absurd trivial h | (exfalso; simp at h; done))) | refine Ix.at ‹_› Qw ?_ | refine Ix.mapN Qw ?_ | refine Ix.mapN1 Qw ?_ | refine Ix.map Qw ?_ | refine Ix.at Qi Qw ?_ | refine LK.callA ent66 (c1) rfl rfl (SbL.refl _) ?_ | refine Ask.callA ent66 (fun h => c1) rfl rfl (SbL.refl _) ?_ | refine LK.callA ent66 (c1) rfl rfl Ql ?_ | refine Ask.callA ent66 (fun h => c1) rfl rfl Ql ?_ | refine LK.callA ent67 (c2) rfl rfl (SbL.refl _) ?_ | refine Ask.callA ent67 (fun h => c2) rfl rfl (SbL.refl _) ?_ | refine LK.callA ent67 (c2) rfl rfl Ql ?_ | refine Ask.callA ent67 (fun h => c2) rfl rfl Ql ?_ | refine lB (T := tab) ?_ | refine lBA (T := tab) ?_ | refine rA (T := tab) ?_ | refine r1 (T := tab) ?_ | refine LK.askW rfl ?_ | refine s1 ?_ | refine sA ?_ | refine CK.any false Qk ?_ | fail))
    rw [hv] at h; cases h
  · have e : dutyOk p d = false := by rw [dutyOk, Bool.eq_false_iff.2 hv, Bool.false_and]
    rw [e, Bool.eq_false_iff.2 hv]
    refine fn_run (T := tab) Tryz.func33 rfl Tryz.ntmps33 rfl Tryz.results33 (fun _ => ?_)
    repeat' ((conv => whnf) <;> (first | refine Must.mk (fun h => h) ?_ | refine Must.mk (fun _ => rfl) ?_ | refine Must.mk Qw ?_ | refine MW.ok Qw ?_ | intro _ | exact Fin.pure rfl | refine Br.tt ?_ | refine Br.ff ?_ | (refine Br.mk (fun h => ?_) (fun h => ?_) <;> (try simp only [sh] at h) <;> (try first | (exfalso; omega) | exact absurd trivial h | (exfalso; simp at h; done))) | refine Ix.at ‹_› Qw ?_ | refine Ix.mapN Qw ?_ | refine Ix.mapN1 Qw ?_ | refine Ix.map Qw ?_ | refine Ix.at Qi Qw ?_ | refine LK.callA ent66 (c1) rfl rfl (SbL.refl _) ?_ | refine Ask.callA ent66 (fun h => c1) rfl rfl (SbL.refl _) ?_ | refine LK.callA ent66 (c1) rfl rfl Ql ?_ | refine Ask.callA ent66 (fun h => c1) rfl rfl Ql ?_ | refine lB (T := tab) ?_ | refine lBA (T := tab) ?_ | refine rA (T := tab) ?_ | refine r1 (T := tab) ?_ | refine LK.askW rfl ?_ | refine s1 ?_ | refine sA ?_ | refine CK.any false Qk ?_ | fail))
    · conv => whnf
      exact Fin.seeP Qz
    · exact absurd h hv
theorem hNight_ok (p : Pl) (d : Du) (hz : validZ p.zone = true) (hv : duB d = true) (hw : 0 ≤ p.lim.night.1 ∧ p.lim.night.1 ≤ 1440 ∧ 0 ≤ p.lim.night.2 ∧ p.lim.night.2 ≤ 1440) : FnA Tryz.prog 34 [.agg (zcs p.zone), duav d, spav p.lim.night] (.tup [I (nightD p d), I 0]) := by
  have c1 := hValid_ok d
  obtain ⟨q1, q2, q3⟩ := z_pre hz d.frm d.to_
  have hb := duB_bd hv
  have c2 := zWindow_ok p.zone d.frm d.to_ p.lim.night q1 q2 hz q3 (by omega) hw
  refine fn_run (T := tab) Tryz.func34 rfl Tryz.ntmps34 rfl Tryz.results34 (fun _ => ?_)
  repeat' ((conv => whnf) <;> (first | refine Must.mk (fun h => h) ?_ | refine Must.mk (fun _ => rfl) ?_ | refine Must.mk Qw ?_ | refine MW.ok Qw ?_ | intro _ | exact Fin.pure rfl | refine Br.tt ?_ | refine Br.ff ?_ | (refine Br.mk (fun h => ?_) (fun h => ?_) <;> (try simp only [sh] at h) <;> (try first | (exfalso; omega) | exact absurd trivial h | (exfalso; simp at h; done))) | refine Ix.at ‹_› Qw ?_ | refine Ix.mapN Qw ?_ | refine Ix.mapN1 Qw ?_ | refine Ix.map Qw ?_ | refine Ix.at Qi Qw ?_ | refine LK.callA ent66 (c1) rfl rfl (SbL.refl _) ?_ | refine Ask.callA ent66 (fun h => c1) rfl rfl (SbL.refl _) ?_ | refine LK.callA ent66 (c1) rfl rfl Ql ?_ | refine Ask.callA ent66 (fun h => c1) rfl rfl Ql ?_ | refine LK.callA ent68 (c2) rfl rfl (SbL.refl _) ?_ | refine Ask.callA ent68 (fun h => c2) rfl rfl (SbL.refl _) ?_ | refine LK.callA ent68 (c2) rfl rfl Ql ?_ | refine Ask.callA ent68 (fun h => c2) rfl rfl Ql ?_ | refine lB (T := tab) ?_ | refine lBA (T := tab) ?_ | refine rA (T := tab) ?_ | refine r1 (T := tab) ?_ | refine LK.askW rfl ?_ | refine s1 ?_ | refine sA ?_ | refine CK.any false Qk ?_ | fail))
  rw [hv] at h; cases h
end Go.Proofs.YthjllgabmgkocaaGreat
