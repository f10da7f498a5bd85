/-
  Walks: piecewise.Least.
  Conditions: those of each theorem.
-/
import Derived.Test.YtnekeokgognegaaU3
namespace Go.Proofs.Ytnekeokgognegaa
open Go.E2 Go.Wage
/-- one stretch: the lower function first -/
def ls4 (l sl h ot : Int) (s : Sp) : List Pc :=
  if sl ≤ ot then [⟨s.1, l, sl⟩] else if (h - l) / (sl - ot) + 1 < s.2 - s.1 then [⟨s.1, l, sl⟩, ⟨s.1 + ((h - l) / (sl - ot) + 1), h + ot * ((h - l) / (sl - ot) + 1), ot⟩] else [⟨s.1, l, sl⟩]
def ls1 (ps qs : List Pc) (s : Sp) : List Pc :=
  if numAt qs s.1 < numAt ps s.1 ∨ numAt qs s.1 = numAt ps s.1 ∧ (pcAt qs s.1).slope < (pcAt ps s.1).slope then ls4 (numAt qs s.1) (pcAt qs s.1).slope (numAt ps s.1) (pcAt ps s.1).slope s
  else ls4 (numAt ps s.1) (pcAt ps s.1).slope (numAt qs s.1) (pcAt qs s.1).slope s
def lsR (ps qs : List Pc) (k : Nat) : List Pc := ((spsR ps qs).take k).flatMap (ls1 ps qs)
theorem ls_succ {ps qs : List Pc} {k : Nat} {s : Sp} (h : (spsR ps qs)[k]? = some s) : lsR ps qs (k + 1) = lsR ps qs k ++ ls1 ps qs s := by
  unfold lsR
  obtain ⟨hlt, he⟩ := List.getElem?_eq_some_iff.1 h
  rw [List.take_succ_eq_append_getElem hlt, he, List.flatMap_append]
  simp
theorem ls4_len (l sl h ot : Int) (s : Sp) : (ls4 l sl h ot s).length ≤ 2 := by
  unfold ls4
  split
  · simp
  · split <;> simp
theorem ls_len {ps qs : List Pc} : ∀ k, (lsR ps qs k).length ≤ 2 * k := by
  intro k
  have : ∀ l : List Sp, (l.flatMap (ls1 ps qs)).length ≤ 2 * l.length := fun l => by
    induction l with
    | nil => simp
    | cons s l ih =>
      rw [List.flatMap_cons, List.length_append, List.length_cons]
      have : (ls1 ps qs s).length ≤ 2 := by unfold ls1; split <;> exact ls4_len _ _ _ _ _
      omega
  unfold lsR
  exact Nat.le_trans (this _) (by rw [List.length_take]; omega)
theorem ls_mul {l sl h ot a b : Int} (h0 : l ≤ h) (h1 : ot < sl) (h2 : (h - l) / (sl - ot) + 1 < b - a) (h3 : b - a ≤ 1000000000001) (h4 : -1000000 ≤ ot ∧ ot ≤ 1000000) : -1000001000000000000 ≤ ot * ((h - l) / (sl - ot) + 1) ∧ ot * ((h - l) / (sl - ot) + 1) ≤ 1000001000000000000 := by
  have hq : 0 ≤ (h - l) / (sl - ot) := Int.ediv_nonneg (by omega) (by omega)
  have hq1 : 1 ≤ (h - l) / (sl - ot) + 1 := by omega
  clear hq
  generalize (h - l) / (sl - ot) + 1 = z at *
  have a1 : ot * z ≤ 1000000 * z := Int.mul_le_mul_of_nonneg_right h4.2 (by omega)
  have a2 : -1000000 * z ≤ ot * z := Int.mul_le_mul_of_nonneg_right h4.1 (by omega)
  omega
set_option maxRecDepth 4000 in
set_option maxHeartbeats 8000000 in
theorem pLeast_ok (den : Int) (ps qs : List Pc) (hp : validB den ps = true) (hq : validB den qs = true) : FnA Try.prog 13 [fav den ps, fav den qs] (.tup [fav (chkR den (lsR ps qs (spsR ps qs).length)).1.1 (chkR den (lsR ps qs (spsR ps qs).length)).1.2, I (chkR den (lsR ps qs (spsR ps qs).length)).2]) := by
  have h1 := valid_parts hp
  have h2 := valid_parts hq
  have hSl := starts_len (ps := ps) (qs := qs)
  have hsl := sps_len ps qs
  have hll := ls_len (ps := ps) (qs := qs) (spsR ps qs).length
  have cc := pChecked_ok den (lsR ps qs (spsR ps qs).length) (by omega)
  have cb := pBoth_ok den ps qs hp hq
  have cs := pStr_ok den den ps qs
  have hit := pStr1_iter den den ps qs ⟨by omega, by omega⟩ (by omega)
  refine fnM_run (T := tab) Try.func13 rfl Try.ntmps13 rfl Try.results13 (fun _ => ?_)
  repeat' ((conv => whnf) <;> (first | refine zM ?_ | refine zW ?_ | intro _ | exact zF | refine Br.tt ?_ | refine Br.ff ?_ | (refine Br.mk (fun h => ?_) (fun h => ?_) <;> (try simp only [sh] at h) <;> try first | (exfalso; omega) | exact absurd trivial h | (simp at h; done)) | refine zA ?_ | refine zN ?_ | refine zO ?_ | refine zP ?_ | refine zB ?_ | refine zQ ?_ | refine Quo.t Qw ?_ | refine zL ent28 cb ?_ | refine zG ent28 (fun h => cb) ?_ | refine zL ent29 cs ?_ | refine zG ent29 (fun h => cs) ?_ | refine lB ?_ | refine lBA ?_ | refine rA ?_ | refine r1 ?_ | refine zK ?_ | refine s1 ?_ | refine sA ?_ | refine zC ?_ | fail))
  rename_i c0 b3 b4 b5 b7
  conv => whnf
  refine CK.nilrow 55 3 ?_
  refine CK.rangeN (T := tab) (p := [27]) ent46 (fun x hx => by obtain ⟨s, _, rfl⟩ := List.mem_map.1 hx; rfl) rfl (Sb.refl _) hit (σ := Nat × Value) (fun j s => s.1 = j) (fun s => [.row s.2 55 3 0 false ((lsR ps qs s.1).map pav), .blk b7 24 false [I den, .v s.2]]) [.blk b5 24 false [I 0, .v (.slice none 0 0)], .blk b4 24 false [I den, .sl 3 (qs.map pav)], .blk b3 24 false [I den, .sl 3 (ps.map pav)]] (fun _ _ => False) (0, .slice none 0 0) rfl (by exact List.Sublist.refl _) ?_ ?_ (fun _ _ _ h => h.elim)
  · intro j x t hx ht c' lp T1 T2
    obtain ⟨j', v⟩ := t
    obtain rfl : j' = j := ht
    rw [List.getElem?_map] at hx
    obtain ⟨s, hs, rfl⟩ : ∃ s, (spsR ps qs)[j']? = some s ∧ [spav s] = x := by
      cases h : (spsR ps qs)[j']? with
      | none => rw [h] at hx; cases hx
      | some s => rw [h] at hx; exact ⟨s, rfl, by simpa using hx⟩
    have hkl : j' < (spsR ps qs).length := (List.getElem?_eq_some_iff.1 hs).1
    have hb := sps_bd (den' := den) hp (.inr hq) hs
    have ca := at_ok den s.1 ps hp hb.1 hb.2.1
    have cb := at_ok den s.1 qs hq hb.1 hb.2.1
    have na := numAt_bd hp hb.1 hb.2.1
    have nb := numAt_bd hq hb.1 hb.2.1
    have pa := pcAt_bd hp hb.1
    have pb := pcAt_bd hq hb.1
    have hsc := ls_succ hs
    have hlk := ls_len (ps := ps) (qs := qs) j'
    have hb1 : ((lsR ps qs j').map pav).length ≤ 300 := by
      rw [List.length_map]; omega
    have hb2 : ∀ y : AV, ((lsR ps qs j').map pav ++ [y]).length ≤ 301 := by
      intro y; rw [List.length_append, List.length_singleton]; omega
    unfold ls1 at hsc
    generalize numAt ps s.1 = x1 at *
    generalize numAt qs s.1 = y1 at *
    generalize (pcAt ps s.1).slope = x2 at *
    generalize (pcAt qs s.1).slope = y2 at *
    repeat' ((conv => whnf) <;> (first | refine Bgn.at 6 (List.Sublist.refl _) ?_ | refine zM ?_ | refine zW ?_ | intro _ | exact zF | refine Br.tt ?_ | refine Br.ff ?_ | (refine Br.mk (fun h => ?_) (fun h => ?_) <;> (try simp only [sh] at h) <;> try first | (exfalso; omega) | exact absurd trivial h | (simp at h; done)) | refine zA ?_ | refine zN ?_ | refine zO ?_ | refine zP ?_ | refine zB ?_ | refine zQ ?_ | refine Quo.t Qw ?_ | refine lB ?_ | refine lBA ?_ | refine rA ?_ | refine r1 ?_ | refine zK ?_ | refine s1 ?_ | refine sA ?_ | refine zC ?_ | fail))
    conv => whnf
    dsimp only
    have hm1 := fun g' q1 q2 => ls_mul (l := y1) (sl := y2) (h := x1) (ot := x2) (a := s.1) (b := s.2) g' q1 q2 (by omega) pa
    have hqd1 : y1 ≤ x1 → y2 > x2 → 0 ≤ (x1 - y1) / (y2 - x2) ∧ (x1 - y1) / (y2 - x2) ≤ 4000000000000000000 := fun g' g => ⟨Int.ediv_nonneg (by omega) (by omega), Int.le_trans (Int.ediv_le_self _ (by omega)) (by omega)⟩
    have hm2 := fun g' q1 q2 => ls_mul (l := x1) (sl := x2) (h := y1) (ot := y2) (a := s.1) (b := s.2) g' q1 q2 (by omega) pb
    have hqd2 : x1 ≤ y1 → x2 > y2 → 0 ≤ (y1 - x1) / (x2 - y2) ∧ (y1 - x1) / (x2 - y2) ≤ 4000000000000000000 := fun g' g => ⟨Int.ediv_nonneg (by omega) (by omega), Int.le_trans (Int.ediv_le_self _ (by omega)) (by omega)⟩
    repeat' ((conv => whnf) <;> (first | refine zM ?_ | refine zW ?_ | intro _ | exact zF | refine Br.tt ?_ | refine Br.ff ?_ | (refine Br.mk (fun h => ?_) (fun h => ?_) <;> (try simp only [sh] at h) <;> try first | (exfalso; omega) | exact absurd trivial h | (simp at h; done)) | refine zA ?_ | refine zN ?_ | refine zO ?_ | refine zP ?_ | refine zB ?_ | refine zQ ?_ | refine Quo.t Qw ?_ | refine zL ent30 ca ?_ | refine zG ent30 (fun h => ca) ?_ | refine zL ent30 cb ?_ | refine zG ent30 (fun h => cb) ?_ | refine lB ?_ | refine lBA ?_ | refine rA ?_ | refine r1 ?_ | refine zK ?_ | refine s1 ?_ | refine sA ?_ | refine pS ?_ | refine LK.gr (Gr.bslV rfl rfl rfl rfl) ?_ | refine Ask.of (Gr.bslV rfl rfl rfl rfl) ?_ | refine zC ?_ | refine zD ?_ | fail))
    · rename_i A q cp
      rw [if_pos (by omega)] at hsc
      unfold ls4 at hsc
      rw [if_pos (by omega)] at hsc
      repeat' ((conv => whnf) <;> (first | refine zM ?_ | refine zW ?_ | intro _ | exact zF | refine Br.tt ?_ | refine Br.ff ?_ | (refine Br.mk (fun h => ?_) (fun h => ?_) <;> (try simp only [sh] at h) <;> try first | (exfalso; omega) | exact absurd trivial h | (simp at h; done)) | refine zA ?_ | refine zN ?_ | refine zO ?_ | refine zP ?_ | refine zB ?_ | refine zQ ?_ | refine Quo.t Qw ?_ | refine lB ?_ | refine lBA ?_ | refine rA ?_ | refine r1 ?_ | refine zK ?_ | refine s1 ?_ | refine sA ?_ | refine zC ?_ | fail))
      refine Rnd.of (j' + 1, Value.slice A q cp) rfl ?_
      rw [hsc, List.map_append]
      exact Qs
    · rename_i A q cp
      rw [if_pos (by omega)] at hsc
      unfold ls4 at hsc
      rw [if_neg (by omega), if_pos (by omega), List.append_cons] at hsc
      repeat' ((conv => whnf) <;> (first | refine zM ?_ | refine zW ?_ | intro _ | exact zF | refine Br.tt ?_ | refine Br.ff ?_ | (refine Br.mk (fun h => ?_) (fun h => ?_) <;> (try simp only [sh] at h) <;> try first | (exfalso; omega) | exact absurd trivial h | (simp at h; done)) | refine zA ?_ | refine zN ?_ | refine zO ?_ | refine zP ?_ | refine zB ?_ | refine zQ ?_ | refine Quo.t Qw ?_ | refine lB ?_ | refine lBA ?_ | refine rA ?_ | refine r1 ?_ | refine zK ?_ | refine s1 ?_ | refine sA ?_ | refine zC ?_ | fail))
      refine Rnd.of (j' + 1, Value.slice A q cp) rfl ?_
      rw [hsc, List.map_append, List.map_append]
      exact Qs
    · rename_i A q cp hh
      rw [if_pos (by omega)] at hsc
      unfold ls4 at hsc
      rw [if_neg (by omega), if_neg (by omega)] at hsc
      repeat' ((conv => whnf) <;> (first | refine zM ?_ | refine zW ?_ | intro _ | exact zF | refine Br.tt ?_ | refine Br.ff ?_ | (refine Br.mk (fun h => ?_) (fun h => ?_) <;> (try simp only [sh] at h) <;> try first | (exfalso; omega) | exact absurd trivial h | (simp at h; done)) | refine zA ?_ | refine zN ?_ | refine zO ?_ | refine zP ?_ | refine zB ?_ | refine zQ ?_ | refine Quo.t Qw ?_ | refine lB ?_ | refine lBA ?_ | refine rA ?_ | refine r1 ?_ | refine zK ?_ | refine s1 ?_ | refine sA ?_ | refine zC ?_ | fail))
      refine Rnd.of (j' + 1, Value.slice A q cp) rfl ?_
      rw [hsc, List.map_append]
      exact Qs
    · rename_i A q cp
      rw [if_neg (by omega)] at hsc
      unfold ls4 at hsc
      rw [if_pos (by omega)] at hsc
      repeat' ((conv => whnf) <;> (first | refine zM ?_ | refine zW ?_ | intro _ | exact zF | refine Br.tt ?_ | refine Br.ff ?_ | (refine Br.mk (fun h => ?_) (fun h => ?_) <;> (try simp only [sh] at h) <;> try first | (exfalso; omega) | exact absurd trivial h | (simp at h; done)) | refine zA ?_ | refine zN ?_ | refine zO ?_ | refine zP ?_ | refine zB ?_ | refine zQ ?_ | refine Quo.t Qw ?_ | refine lB ?_ | refine lBA ?_ | refine rA ?_ | refine r1 ?_ | refine zK ?_ | refine s1 ?_ | refine sA ?_ | refine zC ?_ | fail))
      refine Rnd.of (j' + 1, Value.slice A q cp) rfl ?_
      rw [hsc, List.map_append]
      exact Qs
    · rename_i A q cp
      rw [if_neg (by omega)] at hsc
      unfold ls4 at hsc
      rw [if_neg (by omega), if_pos (by omega), List.append_cons] at hsc
      repeat' ((conv => whnf) <;> (first | refine zM ?_ | refine zW ?_ | intro _ | exact zF | refine Br.tt ?_ | refine Br.ff ?_ | (refine Br.mk (fun h => ?_) (fun h => ?_) <;> (try simp only [sh] at h) <;> try first | (exfalso; omega) | exact absurd trivial h | (simp at h; done)) | refine zA ?_ | refine zN ?_ | refine zO ?_ | refine zP ?_ | refine zB ?_ | refine zQ ?_ | refine Quo.t Qw ?_ | refine lB ?_ | refine lBA ?_ | refine rA ?_ | refine r1 ?_ | refine zK ?_ | refine s1 ?_ | refine sA ?_ | refine zC ?_ | fail))
      refine Rnd.of (j' + 1, Value.slice A q cp) rfl ?_
      rw [hsc, List.map_append, List.map_append]
      exact Qs
    · rename_i A q cp hh
      rw [if_neg (by omega)] at hsc
      unfold ls4 at hsc
      rw [if_neg (by omega), if_neg (by omega)] at hsc
      repeat' ((conv => whnf) <;> (first | refine zM ?_ | refine zW ?_ | intro _ | exact zF | refine Br.tt ?_ | refine Br.ff ?_ | (refine Br.mk (fun h => ?_) (fun h => ?_) <;> (try simp only [sh] at h) <;> try first | (exfalso; omega) | exact absurd trivial h | (simp at h; done)) | refine zA ?_ | refine zN ?_ | refine zO ?_ | refine zP ?_ | refine zB ?_ | refine zQ ?_ | refine Quo.t Qw ?_ | refine lB ?_ | refine lBA ?_ | refine rA ?_ | refine r1 ?_ | refine zK ?_ | refine s1 ?_ | refine sA ?_ | refine zC ?_ | fail))
      refine Rnd.of (j' + 1, Value.slice A q cp) rfl ?_
      rw [hsc, List.map_append]
      exact Qs
  · intro t D ht
    obtain ⟨j', v⟩ := t
    obtain rfl : j' = _ := ht
    dsimp only
    rw [List.length_map]
    have hsm : ((lsR ps qs (spsR ps qs).length).map pav).length = (lsR ps qs (spsR ps qs).length).length := by simp
    repeat' ((conv => whnf) <;> (first | (refine LK.frzR 1 rfl ?_ <;> refine LK.see 103 rfl (Sb.agg (.cons (Sb.refl _) (.cons (Sb.row 1 rfl) .nil))) ?_ <;> refine LK.callA ent31 cc rfl rfl Ql ?_) | refine zM ?_ | refine zW ?_ | intro _ | exact zF | refine Br.tt ?_ | refine Br.ff ?_ | (refine Br.mk (fun h => ?_) (fun h => ?_) <;> (try simp only [sh] at h) <;> try first | (exfalso; omega) | exact absurd trivial h | (simp at h; done)) | refine zA ?_ | refine zN ?_ | refine zO ?_ | refine zP ?_ | refine zB ?_ | refine zQ ?_ | refine Quo.t Qw ?_ | refine lB ?_ | refine lBA ?_ | refine rA ?_ | refine r1 ?_ | refine zK ?_ | refine s1 ?_ | refine sA ?_ | refine zC ?_ | fail))
    repeat' ((conv => whnf) <;> (first | refine Unm.at 0 rfl ?_ | refine zM ?_ | refine zW ?_ | intro _ | exact zF | refine Fin.pure ?_ | refine Br.tt ?_ | refine Br.ff ?_ | (refine Br.mk (fun h => ?_) (fun h => ?_) <;> (try simp only [sh] at h) <;> try first | (exfalso; omega) | exact absurd trivial h | (simp at h; done)) | refine zA ?_ | refine zN ?_ | refine zO ?_ | refine zP ?_ | refine zB ?_ | refine zQ ?_ | refine Quo.t Qw ?_ | refine lB ?_ | refine lBA ?_ | refine rA ?_ | refine r1 ?_ | refine zK ?_ | refine s1 ?_ | refine sA ?_ | refine zC ?_ | fail))
end Go.Proofs.Ytnekeokgognegaa
