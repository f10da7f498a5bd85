/-
  Walks: piecewise.both, Add, Least and Where for any two functions.
  Conditions: those of each theorem.
-/
import Derived.Test.YtnekeokgognegaaU12
namespace Go.Proofs.Ytnekeokgognegaa
open Go.E2 Go.Wage
def bothR (d : Int) (ps : List Pc) (e : Int) (qs : List Pc) : Int := if validB d ps = true ∧ validB e qs = true then (if d = e then 0 else 11) else 1
def rav (r : (Int × List Pc) × Int) : AV := .tup [fav r.1.1 r.1.2, I r.2]
def addG (d : Int) (ps : List Pc) (e : Int) (qs : List Pc) : (Int × List Pc) × Int := if bothR d ps e qs = 0 then chkR d (sumPs ps qs) else ((0, []), bothR d ps e qs)
def lstG (d : Int) (ps : List Pc) (e : Int) (qs : List Pc) : (Int × List Pc) × Int := if bothR d ps e qs = 0 then chkR d (lsR ps qs (spsR ps qs).length) else ((0, []), bothR d ps e qs)
def limB (x : Int) : Prop := -1000000000000 ≤ x ∧ x ≤ 1000000000000
instance (x : Int) : Decidable (limB x) := inferInstanceAs (Decidable (_ ∧ _))
def whG (d : Int) (ps : List Pc) (low high : Int) : List Sp × Int := if validB d ps = true then (if limB low ∧ limB high then (nrm (fndR d low high ps (spsR ps []).length), 0) else ([], 3)) else ([], 1)
def wav (r : List Sp × Int) : AV := .tup [.sl 2 (r.1.map spav), I r.2]
theorem both_zero {d e : Int} {ps qs : List Pc} (h : bothR d ps e qs = 0) : validB d ps = true ∧ validB e qs = true ∧ d = e := by
  unfold bothR at h
  split at h
  · rename_i g
    split at h
    · rename_i g2; exact ⟨g.1, g.2, g2⟩
    · cases h
  · cases h
theorem pBothG_ok (d e : Int) (ps qs : List Pc) (hp : ps.length ≤ 9223372036854775807) (hq : qs.length ≤ 9223372036854775807) : FnA Try.prog 28 [fav d ps, fav e qs] (I (bothR d ps e qs)) := by
  have c1 := valid_ok d ps hp
  have c2 := valid_ok e qs hq
  unfold bothR
  cases h1 : validB d ps with
  | false =>
    rw [h1] at c1
    rw [if_neg (by simp)]
    refine fn_run (T := tab) Try.func28 rfl Try.ntmps28 rfl Try.results28 (fun _ => ?_)
    repeat' ((conv => whnf) <;> (first | refine zM ?_ | refine zW ?_ | intro _ | exact zF | refine Fin.pure ?_ | refine Br.tt ?_ | refine Br.ff ?_ | (refine Br.mk (fun h => ?_) (fun h => ?_) <;> (try simp only [sh] at h) <;> try first | (exfalso; omega) | exact absurd trivial h | (simp at h; done)) | refine zA ?_ | refine zN ?_ | refine zO ?_ | refine zP ?_ | refine zB ?_ | refine zQ ?_ | refine Quo.t Qw ?_ | refine zL ent20 c1 ?_ | refine zG ent20 (fun h => c1) ?_ | refine zL ent20 c2 ?_ | refine zG ent20 (fun h => c2) ?_ | refine lB ?_ | refine lBA ?_ | refine rA ?_ | refine r1 ?_ | refine zK ?_ | refine s1 ?_ | refine sA ?_ | refine zC ?_ | exact True.intro | fail))
  | true =>
    rw [h1] at c1
    cases h2 : validB e qs with
    | false =>
      rw [h2] at c2
      rw [if_neg (by simp)]
      refine fn_run (T := tab) Try.func28 rfl Try.ntmps28 rfl Try.results28 (fun _ => ?_)
      repeat' ((conv => whnf) <;> (first | refine zM ?_ | refine zW ?_ | intro _ | exact zF | refine Fin.pure ?_ | refine Br.tt ?_ | refine Br.ff ?_ | (refine Br.mk (fun h => ?_) (fun h => ?_) <;> (try simp only [sh] at h) <;> try first | (exfalso; omega) | exact absurd trivial h | (simp at h; done)) | refine zA ?_ | refine zN ?_ | refine zO ?_ | refine zP ?_ | refine zB ?_ | refine zQ ?_ | refine Quo.t Qw ?_ | refine zL ent20 c1 ?_ | refine zG ent20 (fun h => c1) ?_ | refine zL ent20 c2 ?_ | refine zG ent20 (fun h => c2) ?_ | refine lB ?_ | refine lBA ?_ | refine rA ?_ | refine r1 ?_ | refine zK ?_ | refine s1 ?_ | refine sA ?_ | refine zC ?_ | exact True.intro | fail))
    | true =>
      rw [h2] at c2
      rw [if_pos ⟨rfl, rfl⟩]
      by_cases hde : d = e
      · rw [if_pos hde]
        refine fn_run (T := tab) Try.func28 rfl Try.ntmps28 rfl Try.results28 (fun _ => ?_)
        repeat' ((conv => whnf) <;> (first | refine zM ?_ | refine zW ?_ | intro _ | exact zF | refine Fin.pure ?_ | refine Br.tt ?_ | refine Br.ff ?_ | (refine Br.mk (fun h => ?_) (fun h => ?_) <;> (try simp only [sh] at h) <;> try first | (exfalso; omega) | exact absurd trivial h | (simp at h; done)) | refine zA ?_ | refine zN ?_ | refine zO ?_ | refine zP ?_ | refine zB ?_ | refine zQ ?_ | refine Quo.t Qw ?_ | refine zL ent20 c1 ?_ | refine zG ent20 (fun h => c1) ?_ | refine zL ent20 c2 ?_ | refine zG ent20 (fun h => c2) ?_ | refine lB ?_ | refine lBA ?_ | refine rA ?_ | refine r1 ?_ | refine zK ?_ | refine s1 ?_ | refine sA ?_ | refine zC ?_ | exact True.intro | fail))
      · rw [if_neg hde]
        refine fn_run (T := tab) Try.func28 rfl Try.ntmps28 rfl Try.results28 (fun _ => ?_)
        repeat' ((conv => whnf) <;> (first | refine zM ?_ | refine zW ?_ | intro _ | exact zF | refine Fin.pure ?_ | refine Br.tt ?_ | refine Br.ff ?_ | (refine Br.mk (fun h => ?_) (fun h => ?_) <;> (try simp only [sh] at h) <;> try first | (exfalso; omega) | exact absurd trivial h | (simp at h; done)) | refine zA ?_ | refine zN ?_ | refine zO ?_ | refine zP ?_ | refine zB ?_ | refine zQ ?_ | refine Quo.t Qw ?_ | refine zL ent20 c1 ?_ | refine zG ent20 (fun h => c1) ?_ | refine zL ent20 c2 ?_ | refine zG ent20 (fun h => c2) ?_ | refine lB ?_ | refine lBA ?_ | refine rA ?_ | refine r1 ?_ | refine zK ?_ | refine s1 ?_ | refine sA ?_ | refine zC ?_ | exact True.intro | fail))
set_option maxHeartbeats 4000000 in
theorem pAddG_ok (d e : Int) (ps qs : List Pc) (hp : ps.length ≤ 9223372036854775807) (hq : qs.length ≤ 9223372036854775807) : FnA Try.prog 11 [fav d ps, fav e qs] (rav (addG d ps e qs)) := by
  have c1 := pBothG_ok d e ps qs hp hq
  unfold addG
  by_cases h : bothR d ps e qs = 0
  · obtain ⟨h1, h2, rfl⟩ := both_zero h
    rw [if_pos h]
    exact pAdd_ok d ps qs h1 h2
  · rw [if_neg h]
    generalize bothR d ps e qs = b at *
    unfold rav
    refine fnM_run (T := tab) Try.func11 rfl Try.ntmps11 rfl Try.results11 (fun _ => ?_)
    repeat' ((conv => whnf) <;> (first | (refine LK.see 18 rfl (Sb.agg (.cons (.refl _) (.cons (Sb.nil (k := 3)) .nil))) ?_) | refine zM ?_ | refine zW ?_ | intro _ | exact zF | refine Fin.pure ?_ | refine Br.tt ?_ | refine Br.ff ?_ | (refine Br.mk (fun h => ?_) (fun h => ?_) <;> (try simp only [sh] at h) <;> try first | (exfalso; omega) | exact absurd trivial h | (simp at h; done)) | refine zA ?_ | refine zN ?_ | refine zO ?_ | refine zP ?_ | refine zB ?_ | refine zQ ?_ | refine Quo.t Qw ?_ | refine zL ent28 c1 ?_ | refine zG ent28 (fun h => c1) ?_ | refine lB ?_ | refine lBA ?_ | refine rA ?_ | refine r1 ?_ | refine zK ?_ | refine s1 ?_ | refine sA ?_ | refine zC ?_ | fail))
set_option maxHeartbeats 4000000 in
theorem pLeastG_ok (d e : Int) (ps qs : List Pc) (hp : ps.length ≤ 9223372036854775807) (hq : qs.length ≤ 9223372036854775807) : FnA Try.prog 13 [fav d ps, fav e qs] (rav (lstG d ps e qs)) := by
  have c1 := pBothG_ok d e ps qs hp hq
  unfold lstG
  by_cases h : bothR d ps e qs = 0
  · obtain ⟨h1, h2, rfl⟩ := both_zero h
    rw [if_pos h]
    exact pLeast_ok d ps qs h1 h2
  · rw [if_neg h]
    generalize bothR d ps e qs = b at *
    unfold rav
    refine fnM_run (T := tab) Try.func13 rfl Try.ntmps13 rfl Try.results13 (fun _ => ?_)
    repeat' ((conv => whnf) <;> (first | (refine LK.see 19 rfl (Sb.agg (.cons (.refl _) (.cons (Sb.nil (k := 3)) .nil))) ?_) | refine zM ?_ | refine zW ?_ | intro _ | exact zF | refine Fin.pure ?_ | refine Br.tt ?_ | refine Br.ff ?_ | (refine Br.mk (fun h => ?_) (fun h => ?_) <;> (try simp only [sh] at h) <;> try first | (exfalso; omega) | exact absurd trivial h | (simp at h; done)) | refine zA ?_ | refine zN ?_ | refine zO ?_ | refine zP ?_ | refine zB ?_ | refine zQ ?_ | refine Quo.t Qw ?_ | refine zL ent28 c1 ?_ | refine zG ent28 (fun h => c1) ?_ | refine lB ?_ | refine lBA ?_ | refine rA ?_ | refine r1 ?_ | refine zK ?_ | refine s1 ?_ | refine sA ?_ | refine zC ?_ | fail))
set_option maxHeartbeats 4000000 in
theorem pWhereG_ok (d low high : Int) (ps : List Pc) (hp : ps.length ≤ 9223372036854775807) : FnA Try.prog 15 [fav d ps, I low, I high] (wav (whG d ps low high)) := by
  have c1 := valid_ok d ps hp
  unfold whG
  by_cases h : validB d ps = true
  · rw [if_pos h]
    by_cases hl : limB low ∧ limB high
    · rw [if_pos hl]
      exact pWhere_ok d low high ps h hl.1 hl.2
    · rw [if_neg hl]
      rw [h] at c1
      unfold limB at hl
      unfold wav
      refine fnM_run (T := tab) Try.func15 rfl Try.ntmps15 rfl Try.results15 (fun _ => ?_)
      repeat' ((conv => whnf) <;> (first | refine zM ?_ | refine zW ?_ | intro _ | exact zF | refine Br.tt ?_ | refine Br.ff ?_ | (refine Br.mk (fun h => ?_) (fun h => ?_) <;> (try simp only [sh] at h) <;> try first | (exfalso; omega) | exact absurd trivial h | (simp at h; done)) | refine zA ?_ | refine zN ?_ | refine zO ?_ | refine zP ?_ | refine zB ?_ | refine zQ ?_ | refine Quo.t Qw ?_ | refine zL ent20 c1 ?_ | refine zG ent20 (fun h => c1) ?_ | refine lB ?_ | refine lBA ?_ | refine rA ?_ | refine r1 ?_ | refine zK ?_ | refine s1 ?_ | refine sA ?_ | refine zC ?_ | fail))
      all_goals (conv => whnf)
      all_goals exact Fin.seeP (Sb.tup (.cons (Sb.nil (k := 2)) (.cons (Sb.refl _) .nil)))
  · rw [if_neg h]
    rw [Bool.not_eq_true] at h
    rw [h] at c1
    unfold wav
    refine fnM_run (T := tab) Try.func15 rfl Try.ntmps15 rfl Try.results15 (fun _ => ?_)
    repeat' ((conv => whnf) <;> (first | refine zM ?_ | refine zW ?_ | intro _ | exact zF | refine Br.tt ?_ | refine Br.ff ?_ | (refine Br.mk (fun h => ?_) (fun h => ?_) <;> (try simp only [sh] at h) <;> try first | (exfalso; omega) | exact absurd trivial h | (simp at h; done)) | refine zA ?_ | refine zN ?_ | refine zO ?_ | refine zP ?_ | refine zB ?_ | refine zQ ?_ | refine Quo.t Qw ?_ | refine zL ent20 c1 ?_ | refine zG ent20 (fun h => c1) ?_ | refine lB ?_ | refine lBA ?_ | refine rA ?_ | refine r1 ?_ | refine zK ?_ | refine s1 ?_ | refine sA ?_ | refine zC ?_ | fail))
    all_goals (conv => whnf)
    all_goals exact Fin.seeP (Sb.tup (.cons (Sb.nil (k := 2)) (.cons (Sb.refl _) .nil)))
end Go.Proofs.Ytnekeokgognegaa
