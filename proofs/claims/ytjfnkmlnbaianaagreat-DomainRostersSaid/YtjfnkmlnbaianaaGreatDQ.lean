/-
  Walks: law 19: is, small, few, head.
  Conditions: those of each theorem.
-/
import Derived.Test.YtjfnkmlnbaianaaGreatDO
import Derived.Test.YtjfnkmlnbaianaaGreatDA
import Derived.Test.YtjfnkmlnbaianaaGreatRS
namespace Go.Proofs.YtjfnkmlnbaianaaGreat
open Go.E2 Go.Wage
abbrev U8 (n : Int) : AV := .v (.int .u8 n)
theorem nis_ok (w : Int) (y : Bool) : FnA Tryz.prog 29 [I w, B y] (ltav ⟨0, w, y⟩) := by
 refine fn_run (T := tab) Tryz.func29 rfl Tryz.ntmps29 rfl Tryz.results29 (fun _ => ?_)
 repeat' ((conv => whnf) <;> (first | refine zM ?_ | refine zW ?_ | intro _ | exact zF | refine Fin.pure ?_ | refine Br.tt ?_ | refine Br.ff ?_ | (refine Br.mk (fun h => ?_) (fun h => ?_) <;> (try simp only [sh] at h) <;> try first | (exfalso; omega) | exact absurd trivial h | (simp at h; done)) | refine zA ?_ | refine zN ?_ | refine zO ?_ | refine zP ?_ | refine zB ?_ | refine lB ?_ | refine lBA ?_ | refine rA ?_ | refine r1 ?_ | refine zK ?_ | refine s1 ?_ | refine sA ?_ | refine zC ?_ | fail))
def wkH (n : ByteArray) (s : Int) : Wk := ⟨n, s, false, 0, []⟩
def exH (a b : ByteArray) : Pl := { zone := { name := ByteArray.empty, base := 0, chs := [] }, duties := [⟨5000, 5480, 1⟩, ⟨5400, 5900, 0⟩], workers := [wkH a 1, wkH b 0], lim := { rest := 0, week := 20000, night := (0, 0), minor := 600 } }
def exI : Pl := { zone := { name := ByteArray.empty, base := 0, chs := [] }, duties := [], workers := [], lim := { rest := -1, week := 0, night := (0, 0), minor := 0 } }
def liY (w : Int) : Lt := ⟨0, w, true⟩
def liN (w : Int) : Lt := ⟨0, w, false⟩
theorem u1 : unitU [[liY 0, liY 1], [liN 0, liY 2]] [liN 1] = ([liN 1, liY 0, liY 2], -1) := by decide +kernel
theorem u2 : unitU [[liY 0], [liN 0]] [] = ([liY 0], 1) := by decide +kernel
theorem u3 : unitU [[liY 0, liY 0]] [] = ([liY 0], -1) := by decide +kernel
def stepsH : List Sg := [⟨[liY 0, liY 1], 1, []⟩, ⟨[⟨1, 0, true⟩, ⟨1, 1, true⟩], 1, []⟩, ⟨[liN 0, liN 1], 2, []⟩, ⟨[⟨1, 0, false⟩, ⟨1, 1, false⟩], 2, []⟩, ⟨[liN 1], 3, []⟩, ⟨[liN 0, ⟨1, 0, false⟩], 3, []⟩]
theorem sg_ext {a b : List Sg} (h : a.map (fun s => (s.cl, s.rule, s.frm)) = b.map (fun s => (s.cl, s.rule, s.frm))) : a = b := by
 refine List.map_inj_right (f := fun s : Sg => (s.cl, s.rule, s.frm)) (fun x y hxy => ?_) |>.1 h
 cases x; cases y
 simp only [Prod.mk.injEq] at hxy
 obtain ⟨h1, h2, h3⟩ := hxy
 subst h1; subst h2; subst h3
 rfl
theorem b1 : baseP (exH ⟨#[97, 110, 110]⟩ ⟨#[98, 111, 98]⟩) = stepsH := sg_ext (by decide +kernel)
theorem b2 : baseP exI = [] := sg_ext (by decide +kernel)
set_option maxRecDepth 8000 in
set_option maxHeartbeats 8000000 in
theorem nHead_ok : FnA Tryz.prog 10 [] (B true) := by
 have k1 := dmUnit_ok [[liY 0, liY 1], [liN 0, liY 2]] [liN 1] (by decide) (by decide) (by decide)
 have k2 := dmUnit_ok [[liY 0], [liN 0]] [] (by decide) (by decide) (by decide)
 have k3 := dmUnit_ok [[liY 0, liY 0]] [] (by decide) (by decide) (by decide)
 rw [u1] at k1
 rw [u2] at k2
 rw [u3] at k3
 have k4 := dmBase_ok (exH ⟨#[97, 110, 110]⟩ ⟨#[98, 111, 98]⟩) ⟨by decide, by decide, by decide, by decide⟩ (by decide) (by decide)
 rw [b1] at k4
 have k5 := dmBase_ok exI ⟨by decide, by decide, by decide, by decide⟩ (by decide) (by decide)
 rw [b2] at k5
 have y0 := nis_ok 0 true
 have y1 := nis_ok 1 true
 have y2 := nis_ok 2 true
 have n0 := nis_ok 0 false
 have n1 := nis_ok 1 false
 have s1 := g9Same_ok [liN 1, liY 0, liY 2] [liN 1, liY 0, liY 2] (by decide) (by decide)
 have s2 := g9Same_ok [liY 0] [liY 0] (by decide) (by decide)
 have s3 := g9Same_ok [liN 1] [liN 1] (by decide) (by decide)
 have s4 := g9Same_ok [liN 0, ⟨1, 0, false⟩] [liN 0, ⟨1, 0, false⟩] (by decide) (by decide)
 rw [decide_eq_true rfl] at s1 s2 s3 s4
 refine fn_run (T := tab) Tryz.func10 rfl Tryz.ntmps10 rfl Tryz.results10 (fun _ => ?_)
 repeat' ((conv => whnf) <;> (first | (refine LK.see 53 rfl (Sb.agg (.cons (.refl _) (.cons (.refl _) (.cons (Sb.nil (k := 2)) (SbL.refl _))))) ?_ <;> refine LK.callA ent16 k4 rfl rfl Ql ?_) | (refine LK.see 48 rfl (Sb.agg (.cons (.refl _) (.cons (.refl _) (.cons (.refl _) (.cons (.refl _) (.cons (Sb.nil (k := 2)) .nil)))))) ?_ <;> refine LK.see 49 rfl (Sb.agg (.cons (.refl _) (.cons (.refl _) (.cons (.refl _) (.cons (.refl _) (.cons (Sb.nil (k := 2)) .nil)))))) ?_ <;> refine LK.gr (Gr.bslV rfl rfl rfl rfl) ?_) | refine zM ?_ | refine zW ?_ | intro _ | exact zF | refine Fin.pure ?_ | refine Br.tt ?_ | refine Br.ff ?_ | (refine Br.mk (fun h => ?_) (fun h => ?_) <;> (try simp only [sh] at h) <;> try first | (exfalso; omega) | exact absurd trivial h | (simp at h; done)) | refine zA ?_ | refine zN ?_ | refine zO ?_ | refine zP ?_ | refine zB ?_ | refine zL ent29 y0 ?_ | refine zG ent29 (fun h => y0) ?_ | refine zL ent29 y1 ?_ | refine zG ent29 (fun h => y1) ?_ | refine zL ent29 y2 ?_ | refine zG ent29 (fun h => y2) ?_ | refine zL ent29 n0 ?_ | refine zG ent29 (fun h => n0) ?_ | refine zL ent29 n1 ?_ | refine zG ent29 (fun h => n1) ?_ | refine zL ent13 k1 ?_ | refine zG ent13 (fun h => k1) ?_ | refine zL ent13 k2 ?_ | refine zG ent13 (fun h => k2) ?_ | refine zL ent13 k3 ?_ | refine zG ent13 (fun h => k3) ?_ | refine zL ent16 k4 ?_ | refine zG ent16 (fun h => k4) ?_ | refine zL ent16 k5 ?_ | refine zG ent16 (fun h => k5) ?_ | refine zL ent18 s1 ?_ | refine zG ent18 (fun h => s1) ?_ | refine zL ent18 s2 ?_ | refine zG ent18 (fun h => s2) ?_ | refine zL ent18 s3 ?_ | refine zG ent18 (fun h => s3) ?_ | refine zL ent18 s4 ?_ | refine zG ent18 (fun h => s4) ?_ | refine lB ?_ | refine lBA ?_ | refine rA ?_ | refine r1 ?_ | refine zK ?_ | refine s1 ?_ | refine sA ?_ | refine LK.gr (Gr.bslV rfl rfl rfl rfl) ?_ | refine Ask.of (Gr.bslV rfl rfl rfl rfl) ?_ | refine zC ?_ | refine zD ?_ | exact True.intro | fail))
theorem nsmall_ok (p : Pl) (hz : PlZ p) : FnA Tryz.prog 11 [.agg (pcs p)] (B (smallV p [] 7)) := by
 have c1 := vSmall_ok p [] 7 hz.ch hz.wk (by simp) hz.aw
 refine fn_run (T := tab) Tryz.func11 rfl Tryz.ntmps11 rfl Tryz.results11 (fun _ => ?_)
 repeat' ((conv => whnf) <;> (first | refine zM ?_ | refine zW ?_ | intro _ | exact zF | refine Fin.pure ?_ | refine Br.tt ?_ | refine Br.ff ?_ | (refine Br.mk (fun h => ?_) (fun h => ?_) <;> (try simp only [sh] at h) <;> try first | (exfalso; omega) | exact absurd trivial h | (simp at h; done)) | refine zA ?_ | refine zN ?_ | refine zO ?_ | refine zP ?_ | refine zB ?_ | refine zL ent30 c1 ?_ | refine zG ent30 (fun h => c1) ?_ | refine lB ?_ | refine lBA ?_ | refine rA ?_ | refine r1 ?_ | refine zK ?_ | refine s1 ?_ | refine sA ?_ | refine zC ?_ | fail))
def fewN (cs : List (List Lt)) (given : List Lt) : Nat := cs.length + given.length + (cs.map List.length).sum
theorem few_take {cs : List (List Lt)} {k : Nat} (h : k < cs.length) : ((cs.take (k + 1)).map List.length).sum = ((cs.take k).map List.length).sum + (cs.getD k default).length := by
 rw [List.take_succ_eq_append_getElem h, List.map_append, List.sum_append, getD_at' h]
 simp
theorem few_le (cs : List (List Lt)) (k : Nat) : ((cs.take k).map List.length).sum ≤ (cs.map List.length).sum := by
 conv => rhs; rw [← List.take_append_drop k cs]
 rw [List.map_append, List.sum_append]
 omega
theorem nfew_ok (cs : List (List Lt)) (given : List Lt) (h : fewN cs given ≤ 2000000) : FnA Tryz.prog 12 [.sl 1 (clO cs), .sl 3 (given.map ltav)] (B (decide (fewN cs given ≤ 300))) := by
 have hcl : (clO cs).length = cs.length := by simp
 have hgl : (given.map ltav).length = given.length := by simp
 unfold fewN at h
 refine fn_run (T := tab) Tryz.func12 rfl Tryz.ntmps12 rfl Tryz.results12 (fun _ => ?_)
 repeat' ((conv => whnf) <;> (first | refine zM ?_ | refine zW ?_ | intro _ | exact zF | refine Br.tt ?_ | refine Br.ff ?_ | (refine Br.mk (fun h => ?_) (fun h => ?_) <;> (try simp only [sh] at h) <;> try first | (exfalso; omega) | exact absurd trivial h | (simp at h; done)) | refine zA ?_ | refine zN ?_ | refine zO ?_ | refine zP ?_ | refine zB ?_ | refine lB ?_ | refine lBA ?_ | refine rA ?_ | refine r1 ?_ | refine zK ?_ | refine s1 ?_ | refine sA ?_ | refine zC ?_ | fail))
 (conv => whnf); refine CK.loopK [5, 7, 15, 16, 17, 18, 19, 20, 21, 22, 23] (σ := Nat × Int) (fun s => s.1 ≤ cs.length ∧ s.2 = cs.length + given.length + ((cs.take s.1).map List.length).sum) (fun ⟨k, t⟩ => [(15, I k), (5, I t)]) (fun _ => []) [] (fun s => cs.length - s.1) (0, (clO cs).length + (given.map ltav).length) ⟨Nat.zero_le _, by simp⟩ Qy (List.Sublist.refl _) ?_
 conv => whnf
 rintro ⟨k, t⟩ ⟨hk, ht⟩
 simp only at hk ht
 by_cases hkc : k < cs.length
 ·have hl2 : ((cs.getD k default).map ltav).length = (cs.getD k default).length := by simp
  have h1 := few_take hkc
  have h2 := few_le cs (k + 1)
  repeat' ((conv => whnf) <;> (first | refine zM ?_ | refine zW ?_ | intro _ | exact zF | refine Br.tt ?_ | refine Br.ff ?_ | (refine Br.mk (fun h => ?_) (fun h => ?_) <;> (try simp only [sh] at h) <;> try first | (exfalso; omega) | exact absurd trivial h | (simp at h; done)) | refine zA ?_ | refine zN ?_ | refine zO ?_ | refine zP ?_ | refine zB ?_ | refine lB ?_ | refine lBA ?_ | refine rA ?_ | refine r1 ?_ | refine zK ?_ | refine s1 ?_ | refine sA ?_ | refine zC ?_ | fail))
  (conv => whnf); (refine Nxt.of ((k + 1, t + ((cs.getD k default).map ltav).length)) [5, 7, 15, 16, 17, 18, 19, 20, 21, 22, 23] Qr Qr Qr ?_ ?_ Qy Qs <;> (try dsimp only) <;> (try omega))
 ·obtain rfl : k = cs.length := by omega
  rw [List.take_length] at ht
  repeat' ((conv => whnf) <;> (first | refine zM ?_ | refine zW ?_ | intro _ | exact zF | refine Br.tt ?_ | refine Br.ff ?_ | (refine Br.mk (fun h => ?_) (fun h => ?_) <;> (try simp only [sh] at h) <;> try first | (exfalso; omega) | exact absurd trivial h | (simp at h; done)) | refine zA ?_ | refine zN ?_ | refine zO ?_ | refine zP ?_ | refine zB ?_ | refine lB ?_ | refine lBA ?_ | refine rA ?_ | refine r1 ?_ | refine zK ?_ | refine s1 ?_ | refine sA ?_ | refine zC ?_ | fail))
  conv => whnf
  refine .out _ (by exact List.nil_sublist _) ⟨congrArg B ?_, rfl⟩
  rw [Bool.eq_iff_iff, decide_eq_true_eq, decide_eq_true_eq]
  unfold fewN
  omega
theorem base_len (p : Pl) (hn : p.duties.length ≤ 7) (hm : p.workers.length ≤ 20) : (baseP p).length ≤ 4000 := by
 unfold baseP
 split
 ·unfold exP
  simp only [List.length_append]
  have h1 := ex1_len p.duties.length p.workers.length
  have h2 := ex4_len p.duties.length p.workers.length
  have h3 := alo2_len p p.duties.length p.workers.length
  have h4 := two3_len p p.duties.length p.workers.length
  have h5 : p.duties.length * (p.workers.length * p.workers.length) ≤ 7 * (20 * 20) := Nat.mul_le_mul hn (Nat.mul_le_mul hm hm)
  have h6 : p.workers.length * p.duties.length ≤ 20 * 7 := Nat.mul_le_mul hm hn
  have h7 : p.workers.length * (p.duties.length * p.duties.length) ≤ 20 * (7 * 7) := Nat.mul_le_mul hm (Nat.mul_le_mul hn hn)
  omega
 ·simp
theorem base_part {p : Pl} {s : Sg} (h : s ∈ baseP p) : (s.cl.length ≤ p.workers.length + 2) ∧ s.frm = [] := by
 by_cases hv : validP p = true
 ·rcases (base_mem hv).1 h with ⟨d, h1, rfl⟩ | ⟨d, v, w, h1, h2, h3, rfl⟩ | ⟨w, d, h1, h2, h3, rfl⟩ | ⟨w, d, e, h1, h2, h3, h4, h5, h6, rfl⟩
  ·exact ⟨by dsimp only; rw [yesS_len]; omega, rfl⟩
  ·exact ⟨by simp, rfl⟩
  ·exact ⟨by simp, rfl⟩
  ·exact ⟨by simp, rfl⟩
 ·rw [baseP, if_neg hv] at h
  cases h
theorem small7 {p : Pl} (h : smallV p [] 7 = true) : Small p ∧ p.duties.length ≤ 7 ∧ p.workers.length ≤ 20 := by
 have h := smallV_iff.1 h
 exact ⟨⟨by omega, by omega, by omega, fun w hw => by have := h.2.2.2.2 w hw; omega⟩, by omega, by omega⟩
theorem few_parts {cs : List (List Lt)} {given : List Lt} {n : Nat} (h : fewN cs given ≤ n) : cs.length ≤ n ∧ given.length ≤ n ∧ ∀ c ∈ cs, c.length ≤ n := by
 unfold fewN at h
 refine ⟨by omega, by omega, fun c hc => ?_⟩
 have key : ∀ l : List (List Lt), c ∈ l → c.length ≤ (l.map List.length).sum := by
  intro l
  induction l with
  | nil => intro h; cases h
  | cons x l ih =>
   intro h
   rw [List.map_cons, List.sum_cons]
   rcases List.mem_cons.1 h with rfl | h
   ·omega
   ·have := ih h; omega
 have := key cs hc
 omega
end Go.Proofs.YtjfnkmlnbaianaaGreat
