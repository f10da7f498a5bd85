/-
  Walks: package shifts: Valid, ordered, Rest.
  Conditions: those of each theorem.
-/
import Derived.Test.YtjfnkmlnbaianaaGreatZ1
import Derived.Test.YtjfnkmlnbaianaaGreatZ4
import Derived.Test.YtjfnkmlnbaianaaGreatZR
namespace Go.Proofs.YtjfnkmlnbaianaaGreat
open Go.E2 Go.Wage
def duav (d : Du) : AV := .agg [I d.frm, I d.to_, I d.skill]
theorem hValid_ok (d : Du) : FnA Tryz.prog 78 [duav d] (B (duB d)) := by
 refine fn_run (T := tab) Tryz.func78 rfl Tryz.ntmps78 rfl Tryz.results78 (fun _ => ?_)
 repeat' ((conv => whnf) <;> (first | refine zM ?_ | refine zW ?_ | intro _ | exact zF | refine Fin.pure ?_ | refine Br.tt ?_ | refine Br.ff ?_ | (refine Br.mk (fun h => ?_) (fun h => ?_) <;> (try simp only [sh] at h) <;> try first | (exfalso; omega) | exact absurd trivial h | (simp at h; done)) | refine zA ?_ | refine zN ?_ | refine zO ?_ | refine zP ?_ | refine zB ?_ | refine lB ?_ | refine lBA ?_ | refine rA ?_ | refine r1 ?_ | refine zK ?_ | refine s1 ?_ | refine sA ?_ | refine zC ?_ | fail))
 all_goals (refine congrArg B ?_; unfold duB; rw [Bool.eq_iff_iff]; simp only [Bool.and_eq_true, decide_eq_true_eq, Bool.false_eq_true, false_iff]; omega)
theorem hBegin_ok (a b : Int) : FnA Tryz.prog 200 [.agg [I a, I b]] (I a) := by
 refine fn_run (T := tab) Tryz.func200 rfl Tryz.ntmps200 rfl Tryz.results200 (fun _ => ?_)
 repeat' ((conv => whnf) <;> (first | refine zM ?_ | refine zW ?_ | intro _ | exact zF | refine Fin.pure ?_ | refine Br.tt ?_ | refine Br.ff ?_ | (refine Br.mk (fun h => ?_) (fun h => ?_) <;> (try simp only [sh] at h) <;> try first | (exfalso; omega) | exact absurd trivial h | (simp at h; done)) | refine zA ?_ | refine zN ?_ | refine zO ?_ | refine zP ?_ | refine zB ?_ | refine Ask.idxAB rfl rfl rfl Qw ?_ | refine lB ?_ | refine lBA ?_ | refine rA ?_ | refine r1 ?_ | refine zK ?_ | refine s1 ?_ | refine sA ?_ | refine zC ?_ | fail))
theorem hEnd_ok (a b : Int) : FnA Tryz.prog 201 [.agg [I a, I b]] (I b) := by
 refine fn_run (T := tab) Tryz.func201 rfl Tryz.ntmps201 rfl Tryz.results201 (fun _ => ?_)
 repeat' ((conv => whnf) <;> (first | refine zM ?_ | refine zW ?_ | intro _ | exact zF | refine Fin.pure ?_ | refine Br.tt ?_ | refine Br.ff ?_ | (refine Br.mk (fun h => ?_) (fun h => ?_) <;> (try simp only [sh] at h) <;> try first | (exfalso; omega) | exact absurd trivial h | (simp at h; done)) | refine zA ?_ | refine zN ?_ | refine zO ?_ | refine zP ?_ | refine zB ?_ | refine Ask.idxAB rfl rfl rfl Qw ?_ | refine lB ?_ | refine lBA ?_ | refine rA ?_ | refine r1 ?_ | refine zK ?_ | refine s1 ?_ | refine sA ?_ | refine zC ?_ | fail))
theorem hOrdered_ok (a b c d : Int) : FnA Tryz.prog 199 [.agg [I a, I b], .agg [I c, I d], .fn (.func 200) []] (.tup (if c < a then [.agg [I c, I d], .agg [I a, I b]] else [.agg [I a, I b], .agg [I c, I d]])) := by
 have c1 := hBegin_ok a b
 have c2 := hBegin_ok c d
 refine fn_run (T := tab) Tryz.func199 rfl Tryz.ntmps199 rfl Tryz.results199 (fun _ => ?_)
 repeat' ((conv => whnf) <;> (first | refine Ask.of (Gr.callC ent200 rfl (Sb.refl _) rfl (SbL.refl _) c1) ?_ | refine Ask.of (Gr.callC ent200 rfl (Sb.refl _) rfl (SbL.refl _) c2) ?_ | refine LK.callC ent200 rfl (Sb.refl _) rfl (SbL.refl _) c1 ?_ | refine LK.callC ent200 rfl (Sb.refl _) rfl (SbL.refl _) c2 ?_ | refine CK.anyK (id := 3) [0, 1] [2, 3] _ (List.Sublist.cons _ (List.Sublist.cons _ (List.Sublist.refl _))) Qk ?_ | refine CK.anyK (id := 2) [0, 1] [2, 3] _ (List.Sublist.cons _ (List.Sublist.cons _ (List.Sublist.refl _))) Qk ?_ | refine zM ?_ | refine zW ?_ | intro _ | exact zF | refine Fin.pure ?_ | refine Br.tt ?_ | refine Br.ff ?_ | (refine Br.mk (fun h => ?_) (fun h => ?_) <;> (try simp only [sh] at h) <;> try first | (exfalso; omega) | exact absurd trivial h | (simp at h; done)) | refine zA ?_ | refine zN ?_ | refine zO ?_ | refine zP ?_ | refine zB ?_ | refine lB ?_ | refine lBA ?_ | refine rA ?_ | refine r1 ?_ | refine zK ?_ | refine s1 ?_ | refine sA ?_ | refine Kx.nil ?_ | refine Kx.stp rfl rfl Qs ?_ | refine kA ?_ | (refine Kx.frzR 0 rfl ?_ <;> refine kF ?_) | refine kP ?_ | refine k1 ?_ | refine kB ?_ | refine kL ?_ | refine zC ?_ | fail))
 ·rw [if_pos h]
 ·rw [if_neg (by omega)]
theorem duB_bd {d : Du} (h : duB d = true) : 0 ≤ d.frm ∧ d.frm < d.to_ ∧ d.to_ ≤ 52596000 ∧ d.to_ - d.frm ≤ 1440 ∧ 0 ≤ d.skill ∧ d.skill ≤ 65535 := by
 unfold duB at h
 simpa using h
set_option maxHeartbeats 4000000 in
theorem hRest_ok (a b : Du) : FnA Tryz.prog 198 [duav a, duav b] (I (restR a b)) := by
 have c1 := hValid_ok a
 have c2 := hValid_ok b
 have c3 := hOrdered_ok a.frm a.to_ b.frm b.to_
 have c4 := hBegin_ok a.frm a.to_
 have c5 := hBegin_ok b.frm b.to_
 have c6 := hEnd_ok a.frm a.to_
 have c7 := hEnd_ok b.frm b.to_
 by_cases hv : duB a = true ∧ duB b = true
 ·have h1 := duB_bd hv.1
  have h2 := duB_bd hv.2
  by_cases hlt : b.frm < a.frm
  ·rw [if_pos hlt] at c3
   refine fn_run (T := tab) Tryz.func198 rfl Tryz.ntmps198 rfl Tryz.results198 (fun _ => ?_)
   repeat' ((conv => whnf) <;> (first | refine zM ?_ | refine zW ?_ | intro _ | exact zF | refine Fin.pure ?_ | refine Br.tt ?_ | refine Br.ff ?_ | (refine Br.mk (fun h => ?_) (fun h => ?_) <;> (try simp only [sh] at h) <;> try first | (exfalso; omega) | exact absurd trivial h | (simp at h; done)) | refine zA ?_ | refine zN ?_ | refine zO ?_ | refine zP ?_ | refine zB ?_ | refine Ask.idxAB rfl rfl rfl Qw ?_ | refine zL ent78 c1 ?_ | refine zG ent78 (fun h => c1) ?_ | refine zL ent78 c2 ?_ | refine zG ent78 (fun h => c2) ?_ | refine zL ent199 c3 ?_ | refine zG ent199 (fun h => c3) ?_ | refine zL ent200 c4 ?_ | refine zG ent200 (fun h => c4) ?_ | refine zL ent200 c5 ?_ | refine zG ent200 (fun h => c5) ?_ | refine zL ent201 c6 ?_ | refine zG ent201 (fun h => c6) ?_ | refine zL ent201 c7 ?_ | refine zG ent201 (fun h => c7) ?_ | refine lB ?_ | refine lBA ?_ | refine rA ?_ | refine r1 ?_ | refine zK ?_ | refine s1 ?_ | refine sA ?_ | refine LK.gr (Gr.bslV rfl rfl rfl rfl) ?_ | refine Ask.of (Gr.bslV rfl rfl rfl rfl) ?_ | refine Kx.nil ?_ | refine Kx.stp rfl rfl Qs ?_ | refine kA ?_ | (refine Kx.frzR 0 rfl ?_ <;> refine kF ?_) | refine kP ?_ | refine k1 ?_ | refine kB ?_ | refine kL ?_ | refine zC ?_ | refine zD ?_ | fail))
   ·exact absurd h (by simp [hv])
   ·rw [restR, hv.1, hv.2, if_pos hlt]; rfl
  ·rw [if_neg hlt] at c3
   refine fn_run (T := tab) Tryz.func198 rfl Tryz.ntmps198 rfl Tryz.results198 (fun _ => ?_)
   repeat' ((conv => whnf) <;> (first | refine zM ?_ | refine zW ?_ | intro _ | exact zF | refine Fin.pure ?_ | refine Br.tt ?_ | refine Br.ff ?_ | (refine Br.mk (fun h => ?_) (fun h => ?_) <;> (try simp only [sh] at h) <;> try first | (exfalso; omega) | exact absurd trivial h | (simp at h; done)) | refine zA ?_ | refine zN ?_ | refine zO ?_ | refine zP ?_ | refine zB ?_ | refine Ask.idxAB rfl rfl rfl Qw ?_ | refine zL ent78 c1 ?_ | refine zG ent78 (fun h => c1) ?_ | refine zL ent78 c2 ?_ | refine zG ent78 (fun h => c2) ?_ | refine zL ent199 c3 ?_ | refine zG ent199 (fun h => c3) ?_ | refine zL ent200 c4 ?_ | refine zG ent200 (fun h => c4) ?_ | refine zL ent200 c5 ?_ | refine zG ent200 (fun h => c5) ?_ | refine zL ent201 c6 ?_ | refine zG ent201 (fun h => c6) ?_ | refine zL ent201 c7 ?_ | refine zG ent201 (fun h => c7) ?_ | refine lB ?_ | refine lBA ?_ | refine rA ?_ | refine r1 ?_ | refine zK ?_ | refine s1 ?_ | refine sA ?_ | refine LK.gr (Gr.bslV rfl rfl rfl rfl) ?_ | refine Ask.of (Gr.bslV rfl rfl rfl rfl) ?_ | refine Kx.nil ?_ | refine Kx.stp rfl rfl Qs ?_ | refine kA ?_ | (refine Kx.frzR 0 rfl ?_ <;> refine kF ?_) | refine kP ?_ | refine k1 ?_ | refine kB ?_ | refine kL ?_ | refine zC ?_ | refine zD ?_ | fail))
   ·exact absurd h (by simp [hv])
   ·rw [restR, hv.1, hv.2, if_neg hlt]; rfl
 ·have e : restR a b = -1 := by
   rw [restR, if_neg]
   simpa using hv
  refine fn_run (T := tab) Tryz.func198 rfl Tryz.ntmps198 rfl Tryz.results198 (fun _ => ?_)
  repeat' ((conv => whnf) <;> (first | refine zM ?_ | refine zW ?_ | intro _ | exact zF | refine Br.tt ?_ | refine Br.ff ?_ | (refine Br.mk (fun h => ?_) (fun h => ?_) <;> (try simp only [sh] at h) <;> try first | (exfalso; omega) | exact absurd trivial h | (simp at h; done)) | refine zA ?_ | refine zN ?_ | refine zO ?_ | refine zP ?_ | refine zB ?_ | refine zL ent78 c1 ?_ | refine zG ent78 (fun h => c1) ?_ | refine zL ent78 c2 ?_ | refine zG ent78 (fun h => c2) ?_ | refine lB ?_ | refine lBA ?_ | refine rA ?_ | refine r1 ?_ | refine zK ?_ | refine s1 ?_ | refine sA ?_ | refine zC ?_ | fail))
  ·conv => whnf
   rw [e]
   exact Fin.pure rfl
  ·exact absurd h hv
theorem z_pre {z : Zo} (hz : validZ z = true) (a b : Int) : z.chs.length ≤ 64 ∧ (strZ z.base z.chs a b).length ≤ 65 ∧ ∀ s ∈ strZ z.base z.chs a b, a ≤ s.1.1 ∧ s.1.1 < s.1.2 ∧ s.1.2 ≤ b ∧ -840 ≤ s.2 ∧ s.2 ≤ 840 := by
 unfold validZ at hz
 simp only [Bool.and_eq_true, decide_eq_true_eq] at hz
 refine ⟨hz.1.1, by have := strZ_len z.chs z.base a b; omega, fun s hs => strZ_mem hs hz.1.2 fun c hc => ?_⟩
 obtain ⟨i, hi, rfl⟩ := List.mem_iff_getElem.1 hc
 have := okC_at hz.2 hi
 simp only [List.getD, List.getElem?_eq_getElem hi, Option.getD_some] at this
 omega
theorem hMinutes_ok (p : Pl) (d : Du) (hz : validZ p.zone = true) : FnA Tryz.prog 59 [.agg (zcs p.zone), duav d] (.tup [.sl 2 ((if dutyOk p d then minsD p d else []).map ptav), I (if dutyOk p d then 0 else if duB d then 21 else 171)]) := by
 have c1 := hValid_ok d
 obtain ⟨q1, q2, q3⟩ := z_pre hz d.frm d.to_
 by_cases hv : duB d = true
 ·have hb := duB_bd hv
  have c2 := zSplit_ok p.zone d.frm d.to_ q1 q2 hz q3 (by omega)
  have e : dutyOk p d = splitOk p.zone d.frm d.to_ := by rw [dutyOk, hv, Bool.true_and]
  rw [e, hv]
  refine fn_run (T := tab) Tryz.func59 rfl Tryz.ntmps59 rfl Tryz.results59 (fun _ => ?_)
  repeat' ((conv => whnf) <;> (first | refine zM ?_ | refine zW ?_ | intro _ | exact zF | refine Br.tt ?_ | refine Br.ff ?_ | (refine Br.mk (fun h => ?_) (fun h => ?_) <;> (try simp only [sh] at h) <;> try first | (exfalso; omega) | exact absurd trivial h | (simp at h; done)) | refine zA ?_ | refine zN ?_ | refine zO ?_ | refine zP ?_ | refine zB ?_ | refine zL ent78 c1 ?_ | refine zG ent78 (fun h => c1) ?_ | refine zL ent79 c2 ?_ | refine zG ent79 (fun h => c2) ?_ | refine lB ?_ | refine lBA ?_ | refine rA ?_ | refine r1 ?_ | refine zK ?_ | refine s1 ?_ | refine sA ?_ | refine zC ?_ | fail))
  rw [hv] at h; cases h
 ·have e : dutyOk p d = false := by rw [dutyOk, Bool.eq_false_iff.2 hv, Bool.false_and]
  rw [e, Bool.eq_false_iff.2 hv]
  refine fn_run (T := tab) Tryz.func59 rfl Tryz.ntmps59 rfl Tryz.results59 (fun _ => ?_)
  repeat' ((conv => whnf) <;> (first | refine zM ?_ | refine zW ?_ | intro _ | exact zF | refine Br.tt ?_ | refine Br.ff ?_ | (refine Br.mk (fun h => ?_) (fun h => ?_) <;> (try simp only [sh] at h) <;> try first | (exfalso; omega) | exact absurd trivial h | (simp at h; done)) | refine zA ?_ | refine zN ?_ | refine zO ?_ | refine zP ?_ | refine zB ?_ | refine zL ent78 c1 ?_ | refine zG ent78 (fun h => c1) ?_ | refine lB ?_ | refine lBA ?_ | refine rA ?_ | refine r1 ?_ | refine zK ?_ | refine s1 ?_ | refine sA ?_ | refine zC ?_ | fail))
  ·conv => whnf
   exact Fin.seeP Qz
  ·exact absurd h hv
theorem hNight_ok (p : Pl) (d : Du) (hz : validZ p.zone = true) (hv : duB d = true) (hw : 0 ≤ p.lim.night.1 ∧ p.lim.night.1 ≤ 1440 ∧ 0 ≤ p.lim.night.2 ∧ p.lim.night.2 ≤ 1440) : FnA Tryz.prog 60 [.agg (zcs p.zone), duav d, spav p.lim.night] (.tup [I (nightD p d), I 0]) := by
 have c1 := hValid_ok d
 obtain ⟨q1, q2, q3⟩ := z_pre hz d.frm d.to_
 have hb := duB_bd hv
 have c2 := zWindow_ok p.zone d.frm d.to_ p.lim.night q1 q2 hz q3 (by omega) hw
 refine fn_run (T := tab) Tryz.func60 rfl Tryz.ntmps60 rfl Tryz.results60 (fun _ => ?_)
 repeat' ((conv => whnf) <;> (first | refine zM ?_ | refine zW ?_ | intro _ | exact zF | refine Br.tt ?_ | refine Br.ff ?_ | (refine Br.mk (fun h => ?_) (fun h => ?_) <;> (try simp only [sh] at h) <;> try first | (exfalso; omega) | exact absurd trivial h | (simp at h; done)) | refine zA ?_ | refine zN ?_ | refine zO ?_ | refine zP ?_ | refine zB ?_ | refine zL ent78 c1 ?_ | refine zG ent78 (fun h => c1) ?_ | refine zL ent80 c2 ?_ | refine zG ent80 (fun h => c2) ?_ | refine lB ?_ | refine lBA ?_ | refine rA ?_ | refine r1 ?_ | refine zK ?_ | refine s1 ?_ | refine sA ?_ | refine zC ?_ | fail))
 rw [hv] at h; cases h
end Go.Proofs.YtjfnkmlnbaianaaGreat
