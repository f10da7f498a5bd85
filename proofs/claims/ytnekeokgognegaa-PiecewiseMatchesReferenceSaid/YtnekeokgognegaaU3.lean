/-
  Walks: piecewise.Where.
  Conditions: those of each theorem.
-/
import Derived.Test.YtnekeokgognegaaU2
namespace Go.Proofs.Ytnekeokgognegaa
open Go.E2 Go.Wage
def wsp (den low high : Int) (ps : List Pc) (s : Sp) : List Sp :=
  if max (stepsR (numAt ps s.1) (pcAt ps s.1).slope (low * den) (high * den)).1 0 ≤ min (stepsR (numAt ps s.1) (pcAt ps s.1).slope (low * den) (high * den)).2 (s.2 - s.1 - 1) then
    [(s.1 + max (stepsR (numAt ps s.1) (pcAt ps s.1).slope (low * den) (high * den)).1 0, s.1 + min (stepsR (numAt ps s.1) (pcAt ps s.1).slope (low * den) (high * den)).2 (s.2 - s.1 - 1) + 1)]
  else []
def fndR (den low high : Int) (ps : List Pc) (k : Nat) : List Sp := ((spsR ps []).take k).flatMap (wsp den low high ps)
theorem fnd_succ {den low high : Int} {ps : List Pc} {k : Nat} {s : Sp} (h : (spsR ps [])[k]? = some s) : fndR den low high ps (k + 1) = fndR den low high ps k ++ wsp den low high ps s := by
  unfold fndR
  obtain ⟨hlt, he⟩ := List.getElem?_eq_some_iff.1 h
  rw [List.take_succ_eq_append_getElem hlt, he, List.flatMap_append]
  simp
theorem fnd_len {den low high : Int} {ps : List Pc} : ∀ k, (fndR den low high ps k).length ≤ k := by
  intro k
  have : ∀ l : List Sp, (l.flatMap (wsp den low high ps)).length ≤ l.length := fun l => by
    induction l with
    | nil => simp
    | cons s l ih =>
      rw [List.flatMap_cons, List.length_append, List.length_cons]
      have : (wsp den low high ps s).length ≤ 1 := by unfold wsp; split <;> simp
      omega
  unfold fndR
  exact Nat.le_trans (this _) (by rw [List.length_take]; omega)
theorem sps_bd {den den' : Int} {ps qs : List Pc} (hp : validB den ps = true) (hq : qs = [] ∨ validB den' qs = true) {k : Nat} {s : Sp} (h : (spsR ps qs)[k]? = some s) : 0 ≤ s.1 ∧ s.1 ≤ 1000000000000 ∧ 0 ≤ s.2 ∧ s.2 ≤ 1000000000001 ∧ s.1 < s.2 := by
  have hS : ∀ x, x ∈ startsR ps qs → 0 ≤ x ∧ x ≤ 1000000000000 := fun x hx => starts_bd hp hq hx
  have h1 := prs_start h
  have h2 := hS _ (List.mem_of_getElem? h1)
  obtain ⟨_, _, h3⟩ := prs_inv h
  rw [List.length_append, List.length_singleton] at h3
  obtain ⟨b, hb⟩ : ∃ b, (startsR ps qs ++ [1000000000001])[k + 1]? = some b := ⟨_, List.getElem?_eq_getElem (by simp; omega)⟩
  have e : s = (s.1, b) := by
    have := prs_get (by rw [List.getElem?_append_left (by omega)]; exact h1) hb
    unfold spsR at h
    rw [h] at this
    exact Option.some.inj this
  have e2 : s.2 = b := by rw [e]
  rw [List.getElem?_append] at hb
  split at hb
  · rename_i hlt
    have hbm := hS b (List.mem_of_getElem? hb)
    have hasc := List.pairwise_iff_getElem.1 (srtI_asc (ps.map Pc.frm ++ qs.map Pc.frm)) k (k + 1) (by show k < (startsR ps qs).length; omega) (by show k + 1 < (startsR ps qs).length; omega) (by omega)
    obtain ⟨_, g1⟩ := List.getElem?_eq_some_iff.1 h1
    obtain ⟨_, g2⟩ := List.getElem?_eq_some_iff.1 hb
    have hlt2 : s.1 < b := by rw [← g1, ← g2]; exact hasc
    omega
  · have hlast : k + 1 - (startsR ps qs).length = 0 := by omega
    rw [hlast] at hb
    simp at hb
    omega
set_option maxRecDepth 4000 in
set_option maxHeartbeats 8000000 in
theorem pWhere_ok (den low high : Int) (ps : List Pc) (hp : validB den ps = true) (hl : -1000000000000 ≤ low ∧ low ≤ 1000000000000) (hh : -1000000000000 ≤ high ∧ high ≤ 1000000000000) :
    FnA Try.prog 15 [fav den ps, I low, I high] (.tup [.sl 2 ((nrm (fndR den low high ps (spsR ps []).length)).map spav), I 0]) := by
  have h1 := valid_parts hp
  have cv := valid_ok den ps (by omega)
  rw [hp] at cv
  have hSl := starts_len (ps := ps) (qs := [])
  simp only [List.length_nil, Nat.add_zero] at hSl
  have hspl := sps_len ps []
  have hfl := fnd_len (den := den) (low := low) (high := high) (ps := ps) (spsR ps []).length
  have ml : -1000000000000000000 ≤ low * den ∧ low * den ≤ 1000000000000000000 := by
    have a1 : low * den ≤ 1000000000000 * den := Int.mul_le_mul_of_nonneg_right hl.2 (by omega)
    have a2 : -1000000000000 * den ≤ low * den := Int.mul_le_mul_of_nonneg_right hl.1 (by omega)
    omega
  have mh : -1000000000000000000 ≤ high * den ∧ high * den ≤ 1000000000000000000 := by
    have a1 : high * den ≤ 1000000000000 * den := Int.mul_le_mul_of_nonneg_right hh.2 (by omega)
    have a2 : -1000000000000 * den ≤ high * den := Int.mul_le_mul_of_nonneg_right hh.1 (by omega)
    omega
  have cs := pStr_ok den 0 ps []
  have hit := pStr1_iter den 0 ps [] ⟨by omega, by omega⟩ (by simp)
  refine fnM_run (T := tab) Try.func15 rfl Try.ntmps15 rfl Try.results15 (fun _ => ?_)
  repeat' ((conv => whnf) <;> (first | refine zM ?_ | refine zW ?_ | intro _ | exact zF | refine Br.tt ?_ | refine Br.ff ?_ | (refine Br.mk (fun h => ?_) (fun h => ?_) <;> (try simp only [sh] at h) <;> try first | (exfalso; omega) | exact absurd trivial h | (simp at h; done)) | refine zA ?_ | refine zN ?_ | refine zO ?_ | refine zP ?_ | refine zB ?_ | refine zL ent20 cv ?_ | refine zG ent20 (fun h => cv) ?_ | refine zL ent29 cs ?_ | refine zG ent29 (fun h => cs) ?_ | refine lB ?_ | refine lBA ?_ | refine zK ?_ | refine s1 ?_ | refine sA ?_ | refine zC ?_ | fail))
  rename_i c0 b3 b4 b5 b8
  conv => whnf
  refine CK.nilrow 50 2 ?_
  refine CK.rangeN (T := tab) (p := [34]) ent46 (fun x hx => by obtain ⟨s, _, rfl⟩ := List.mem_map.1 hx; rfl) rfl (Sb.refl _) hit (σ := Nat × Value) (fun j s => s.1 = j) (fun s => [.row s.2 50 2 0 false ((fndR den low high ps s.1).map spav), .blk b8 34 false [.v s.2]]) [.blk b5 3 false [I high], .blk b4 3 false [I low], .blk b3 24 false [I den, .sl 3 (ps.map pav)]] (fun _ _ => False) (0, .slice none 0 0) rfl (by exact List.Sublist.refl _) ?_ ?_ (fun _ _ _ h => h.elim)
  · intro j x t hx ht c' lp T1 T2
    obtain ⟨j', v⟩ := t
    obtain rfl : j' = j := ht
    rw [List.getElem?_map] at hx
    obtain ⟨s, hs, rfl⟩ : ∃ s, (spsR ps [])[j']? = some s ∧ [spav s] = x := by
      cases h : (spsR ps [])[j']? with
      | none => rw [h] at hx; cases hx
      | some s => rw [h] at hx; exact ⟨s, rfl, by simpa using hx⟩
    have hkl : j' < (spsR ps []).length := (List.getElem?_eq_some_iff.1 hs).1
    have hb := sps_bd (den' := den) hp (.inl rfl) hs
    have ca := at_ok den s.1 ps hp hb.1 hb.2.1
    have na := numAt_bd hp hb.1 hb.2.1
    have pa := pcAt_bd hp hb.1
    have cst := pSteps_ok (numAt ps s.1) (pcAt ps s.1).slope (low * den) (high * den) (by omega) pa (by omega) (by omega)
    have hsc := fnd_succ (den := den) (low := low) (high := high) hs
    have hfk := fnd_len (den := den) (low := low) (high := high) (ps := ps) j'
    have hb1 : ((fndR den low high ps j').map spav).length ≤ 100 := by
      rw [List.length_map]; omega
    unfold wsp at hsc
    unfold pr2 at cst
    generalize stepsR (numAt ps s.1) (pcAt ps s.1).slope (low * den) (high * den) = r at *
    repeat' ((conv => whnf) <;> (first | refine Bgn.at 6 (List.Sublist.refl _) ?_ | refine zM ?_ | refine zW ?_ | intro _ | exact zF | refine Br.tt ?_ | refine Br.ff ?_ | (refine Br.mk (fun h => ?_) (fun h => ?_) <;> (try simp only [sh] at h) <;> try first | (exfalso; omega) | exact absurd trivial h | (simp at h; done)) | refine zA ?_ | refine zN ?_ | refine zO ?_ | refine zP ?_ | refine zB ?_ | refine lB ?_ | refine lBA ?_ | refine zK ?_ | refine s1 ?_ | refine sA ?_ | refine zC ?_ | fail))
    conv => whnf
    dsimp only
    repeat' ((conv => whnf) <;> (first | refine zM ?_ | refine zW ?_ | intro _ | exact zF | refine Br.tt ?_ | refine Br.ff ?_ | (refine Br.mk (fun h => ?_) (fun h => ?_) <;> (try simp only [sh] at h) <;> try first | (exfalso; omega) | exact absurd trivial h | (simp at h; done)) | refine zA ?_ | refine zN ?_ | refine zO ?_ | refine zP ?_ | refine zB ?_ | refine zL ent30 ca ?_ | refine zG ent30 (fun h => ca) ?_ | refine zL ent38 cst ?_ | refine zG ent38 (fun h => cst) ?_ | refine lB ?_ | refine lBA ?_ | refine zK ?_ | refine s1 ?_ | refine sA ?_ | refine pS ?_ | refine LK.gr (Gr.bslV rfl rfl rfl rfl) ?_ | refine Ask.of (Gr.bslV rfl rfl rfl rfl) ?_ | refine zC ?_ | refine zD ?_ | fail))
    · rename_i A q cp
      rw [if_pos h] at hsc
      repeat' ((conv => whnf) <;> (first | refine zM ?_ | refine zW ?_ | intro _ | exact zF | refine Br.tt ?_ | refine Br.ff ?_ | (refine Br.mk (fun h => ?_) (fun h => ?_) <;> (try simp only [sh] at h) <;> try first | (exfalso; omega) | exact absurd trivial h | (simp at h; done)) | refine zA ?_ | refine zN ?_ | refine zO ?_ | refine zP ?_ | refine zB ?_ | refine lB ?_ | refine lBA ?_ | refine zK ?_ | refine s1 ?_ | refine sA ?_ | refine zC ?_ | fail))
      refine Rnd.of (j' + 1, Value.slice A q cp) rfl ?_
      rw [hsc, List.map_append]
      exact Qs
    · rw [if_neg (by omega), List.append_nil] at hsc
      repeat' ((conv => whnf) <;> (first | refine zM ?_ | refine zW ?_ | intro _ | exact zF | refine Br.tt ?_ | refine Br.ff ?_ | (refine Br.mk (fun h => ?_) (fun h => ?_) <;> (try simp only [sh] at h) <;> try first | (exfalso; omega) | exact absurd trivial h | (simp at h; done)) | refine zA ?_ | refine zN ?_ | refine zO ?_ | refine zP ?_ | refine zB ?_ | refine lB ?_ | refine lBA ?_ | refine zK ?_ | refine s1 ?_ | refine sA ?_ | refine zC ?_ | fail))
      refine Rnd.of (j' + 1, v) rfl ?_
      rw [hsc]
      exact Qs
  · intro t D ht
    obtain ⟨j', v⟩ := t
    obtain rfl : j' = _ := ht
    dsimp only
    rw [List.length_map]
    have cn := sNormal_ok (fndR den low high ps (spsR ps []).length) (by omega)
    repeat' ((conv => whnf) <;> (first | (refine LK.frzR 1 rfl ?_ <;> refine LK.callA ent39 cn rfl rfl Ql ?_) | refine zM ?_ | refine zW ?_ | intro _ | exact zF | refine Br.tt ?_ | refine Br.ff ?_ | (refine Br.mk (fun h => ?_) (fun h => ?_) <;> (try simp only [sh] at h) <;> try first | (exfalso; omega) | exact absurd trivial h | (simp at h; done)) | refine zA ?_ | refine zN ?_ | refine zO ?_ | refine zP ?_ | refine zB ?_ | refine lB ?_ | refine lBA ?_ | refine zK ?_ | refine s1 ?_ | refine sA ?_ | refine zC ?_ | fail))
    repeat' ((conv => whnf) <;> (first | refine Unm.at 0 rfl ?_ | refine zM ?_ | refine zW ?_ | intro _ | exact zF | refine Fin.pure ?_ | refine Br.tt ?_ | refine Br.ff ?_ | (refine Br.mk (fun h => ?_) (fun h => ?_) <;> (try simp only [sh] at h) <;> try first | (exfalso; omega) | exact absurd trivial h | (simp at h; done)) | refine zA ?_ | refine zN ?_ | refine zO ?_ | refine zP ?_ | refine zB ?_ | refine lB ?_ | refine lBA ?_ | refine zK ?_ | refine s1 ?_ | refine sA ?_ | refine zC ?_ | fail))
end Go.Proofs.Ytnekeokgognegaa
