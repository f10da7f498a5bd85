/-
  Walks: the reference's wrong, result, Add.
  Conditions: those of each theorem.
-/
import Derived.Test.YtnekeokgognegaaUM
namespace Go.Proofs.Ytnekeokgognegaa
open Go.E2 Go.Wage
theorem r5wrong_ok (d e : Int) (ps qs : List Pc) (hp : ps.length ≤ 9223372036854775807) (hq : qs.length ≤ 9223372036854775807) : FnA Try.prog 32 [fav d ps, fav e qs] (I (bothR d ps e qs)) := by
  have c1 := r5Valid_ok d ps hp
  have c2 := r5Valid_ok e qs hq
  unfold bothR
  cases h1 : validB d ps with
  | false =>
    rw [h1] at c1
    rw [if_neg (by simp)]
    refine fn_run (T := tab) Try.func32 rfl Try.ntmps32 rfl Try.results32 (fun _ => ?_)
    repeat' ((conv => whnf) <;> (first | refine zM ?_ | refine zW ?_ | intro _ | exact zF | refine Fin.pure ?_ | refine Br.tt ?_ | refine Br.ff ?_ | (refine Br.mk (fun h => ?_) (fun h => ?_) <;> (try simp only [sh] at h) <;> try first | (exfalso; omega) | exact absurd trivial h | (simp at h; done)) | refine zA ?_ | refine zN ?_ | refine zO ?_ | refine zP ?_ | refine zB ?_ | refine zL ent21 c1 ?_ | refine zG ent21 (fun h => c1) ?_ | refine zL ent21 c2 ?_ | refine zG ent21 (fun h => c2) ?_ | refine lB ?_ | refine lBA ?_ | refine rA ?_ | refine r1 ?_ | refine zK ?_ | refine s1 ?_ | refine sA ?_ | refine zC ?_ | exact True.intro | fail))
  | true =>
    rw [h1] at c1
    cases h2 : validB e qs with
    | false =>
      rw [h2] at c2
      rw [if_neg (by simp)]
      refine fn_run (T := tab) Try.func32 rfl Try.ntmps32 rfl Try.results32 (fun _ => ?_)
      repeat' ((conv => whnf) <;> (first | refine zM ?_ | refine zW ?_ | intro _ | exact zF | refine Fin.pure ?_ | refine Br.tt ?_ | refine Br.ff ?_ | (refine Br.mk (fun h => ?_) (fun h => ?_) <;> (try simp only [sh] at h) <;> try first | (exfalso; omega) | exact absurd trivial h | (simp at h; done)) | refine zA ?_ | refine zN ?_ | refine zO ?_ | refine zP ?_ | refine zB ?_ | refine zL ent21 c1 ?_ | refine zG ent21 (fun h => c1) ?_ | refine zL ent21 c2 ?_ | refine zG ent21 (fun h => c2) ?_ | refine lB ?_ | refine lBA ?_ | refine rA ?_ | refine r1 ?_ | refine zK ?_ | refine s1 ?_ | refine sA ?_ | refine zC ?_ | exact True.intro | fail))
    | true =>
      rw [h2] at c2
      rw [if_pos ⟨rfl, rfl⟩]
      by_cases hde : d = e
      · rw [if_pos hde]
        refine fn_run (T := tab) Try.func32 rfl Try.ntmps32 rfl Try.results32 (fun _ => ?_)
        repeat' ((conv => whnf) <;> (first | refine zM ?_ | refine zW ?_ | intro _ | exact zF | refine Fin.pure ?_ | refine Br.tt ?_ | refine Br.ff ?_ | (refine Br.mk (fun h => ?_) (fun h => ?_) <;> (try simp only [sh] at h) <;> try first | (exfalso; omega) | exact absurd trivial h | (simp at h; done)) | refine zA ?_ | refine zN ?_ | refine zO ?_ | refine zP ?_ | refine zB ?_ | refine zL ent21 c1 ?_ | refine zG ent21 (fun h => c1) ?_ | refine zL ent21 c2 ?_ | refine zG ent21 (fun h => c2) ?_ | refine lB ?_ | refine lBA ?_ | refine rA ?_ | refine r1 ?_ | refine zK ?_ | refine s1 ?_ | refine sA ?_ | refine zC ?_ | exact True.intro | fail))
      · rw [if_neg hde]
        refine fn_run (T := tab) Try.func32 rfl Try.ntmps32 rfl Try.results32 (fun _ => ?_)
        repeat' ((conv => whnf) <;> (first | refine zM ?_ | refine zW ?_ | intro _ | exact zF | refine Fin.pure ?_ | refine Br.tt ?_ | refine Br.ff ?_ | (refine Br.mk (fun h => ?_) (fun h => ?_) <;> (try simp only [sh] at h) <;> try first | (exfalso; omega) | exact absurd trivial h | (simp at h; done)) | refine zA ?_ | refine zN ?_ | refine zO ?_ | refine zP ?_ | refine zB ?_ | refine zL ent21 c1 ?_ | refine zG ent21 (fun h => c1) ?_ | refine zL ent21 c2 ?_ | refine zG ent21 (fun h => c2) ?_ | refine lB ?_ | refine lBA ?_ | refine rA ?_ | refine r1 ?_ | refine zK ?_ | refine s1 ?_ | refine sA ?_ | refine zC ?_ | exact True.intro | fail))
theorem r5result_ok (den : Int) (ps : List Pc) (hlen : ps.length ≤ 9223372036854775807) : FnA Try.prog 36 [fav den ps] (rav (chkR den ps)) := by
  have hl : (ps.map pav).length = ps.length := by simp
  have c1 := r5Valid_ok den ps hlen
  unfold chkR rav
  by_cases h64 : 64 < ps.length
  · rw [if_pos h64]
    refine fn_run (T := tab) Try.func36 rfl Try.ntmps36 rfl Try.results36 (fun _ => ?_)
    repeat' ((conv => whnf) <;> (first | (refine LK.see 9 rfl (Sb.agg (.cons (.refl _) (.cons (Sb.nil (k := 3)) .nil))) ?_) | refine zM ?_ | refine zW ?_ | intro _ | exact zF | refine Fin.pure ?_ | refine Br.tt ?_ | refine Br.ff ?_ | (refine Br.mk (fun h => ?_) (fun h => ?_) <;> (try simp only [sh] at h) <;> try first | (exfalso; omega) | exact absurd trivial h | (simp at h; done)) | refine zA ?_ | refine zN ?_ | refine zO ?_ | refine zP ?_ | refine zB ?_ | refine lB ?_ | refine lBA ?_ | refine rA ?_ | refine r1 ?_ | refine zK ?_ | refine s1 ?_ | refine sA ?_ | refine zC ?_ | fail))
  · rw [if_neg h64]
    cases hv : validB den ps with
    | true =>
      rw [hv] at c1
      rw [if_pos rfl]
      refine fn_run (T := tab) Try.func36 rfl Try.ntmps36 rfl Try.results36 (fun _ => ?_)
      repeat' ((conv => whnf) <;> (first | refine zM ?_ | refine zW ?_ | intro _ | exact zF | refine Fin.pure ?_ | refine Br.tt ?_ | refine Br.ff ?_ | (refine Br.mk (fun h => ?_) (fun h => ?_) <;> (try simp only [sh] at h) <;> try first | (exfalso; omega) | exact absurd trivial h | (simp at h; done)) | refine zA ?_ | refine zN ?_ | refine zO ?_ | refine zP ?_ | refine zB ?_ | refine zL ent21 c1 ?_ | refine zG ent21 (fun h => c1) ?_ | refine lB ?_ | refine lBA ?_ | refine rA ?_ | refine r1 ?_ | refine zK ?_ | refine s1 ?_ | refine sA ?_ | refine zC ?_ | fail))
    | false =>
      rw [hv] at c1
      rw [if_neg (by simp)]
      refine fn_run (T := tab) Try.func36 rfl Try.ntmps36 rfl Try.results36 (fun _ => ?_)
      repeat' ((conv => whnf) <;> (first | (refine LK.see 14 rfl (Sb.agg (.cons (.refl _) (.cons (Sb.nil (k := 3)) .nil))) ?_) | refine zM ?_ | refine zW ?_ | intro _ | exact zF | refine Fin.pure ?_ | refine Br.tt ?_ | refine Br.ff ?_ | (refine Br.mk (fun h => ?_) (fun h => ?_) <;> (try simp only [sh] at h) <;> try first | (exfalso; omega) | exact absurd trivial h | (simp at h; done)) | refine zA ?_ | refine zN ?_ | refine zO ?_ | refine zP ?_ | refine zB ?_ | refine zL ent21 c1 ?_ | refine zG ent21 (fun h => c1) ?_ | refine lB ?_ | refine lBA ?_ | refine rA ?_ | refine r1 ?_ | refine zK ?_ | refine s1 ?_ | refine sA ?_ | refine zC ?_ | fail))
theorem starts_ok {d : Int} {ps qs : List Pc} (hp : validB d ps = true) (hq : validB d qs = true) : FnA Try.prog 33 [fav d ps, fav d qs] (.sl 1 ((startsR ps qs).map I)) := by
  have h1 := valid_parts hp
  have h2 := valid_parts hq
  rw [← starts_mrg hp (.inr hq)]
  refine r5Starts_ok d d ps qs (by omega) (by omega) (fun p h => ?_) (fun p h => ?_)
  · obtain ⟨i, hi⟩ := List.getElem?_of_mem h
    have := valid_piece hp hi
    unfold inI; omega
  · obtain ⟨i, hi⟩ := List.getElem?_of_mem h
    have := valid_piece hq hi
    unfold inI; omega
set_option maxRecDepth 4000 in
set_option maxHeartbeats 8000000 in
theorem r5Add_ok (d e : Int) (ps qs : List Pc) (hp : ps.length ≤ 9223372036854775807) (hq : qs.length ≤ 9223372036854775807) : FnA Try.prog 12 [fav d ps, fav e qs] (rav (addG d ps e qs)) := by
  have c1 := r5wrong_ok d e ps qs hp hq
  unfold addG
  by_cases h : bothR d ps e qs = 0
  · rw [h] at c1
    obtain ⟨h1, h2, rfl⟩ := both_zero h
    rw [if_pos h]
    clear h
    have v1 := valid_parts h1
    have v2 := valid_parts h2
    have hSl := starts_len (ps := ps) (qs := qs)
    have hsl : (sumPs ps qs).length = (startsR ps qs).length := by unfold sumPs; rw [List.length_map]
    have cc := r5result_ok d (sumPs ps qs) (by omega)
    have cs := starts_ok h1 h2
    have hSm : ((startsR ps qs).map I).length = (startsR ps qs).length := by simp
    refine fn_run (T := tab) Try.func12 rfl Try.ntmps12 rfl Try.results12 (fun _ => ?_)
    repeat' ((conv => whnf) <;> (first | refine zM ?_ | refine zW ?_ | intro _ | exact zF | refine Br.tt ?_ | refine Br.ff ?_ | (refine Br.mk (fun h => ?_) (fun h => ?_) <;> (try simp only [sh] at h) <;> try first | (exfalso; omega) | exact absurd trivial h | (simp at h; done)) | refine zA ?_ | refine zN ?_ | refine zO ?_ | refine zP ?_ | refine zB ?_ | refine zL ent32 c1 ?_ | refine zG ent32 (fun h => c1) ?_ | refine zL ent33 cs ?_ | refine zG ent33 (fun h => cs) ?_ | refine lB ?_ | refine lBA ?_ | refine rA ?_ | refine r1 ?_ | refine zK ?_ | refine s1 ?_ | refine sA ?_ | refine zC ?_ | fail))
    rename_i b2 b3 b4 b7
    conv => whnf
    refine CK.nilrow 55 3 ?_
    (conv => whnf); refine CK.loopK [9, 23, 24, 25, 26, 27, 28, 29, 30, 31, 32, 33, 34, 35, 36, 37, 38, 39, 40, 41, 42, 43, 44, 45, 46, 47, 48, 49, 50, 51, 52, 53, 54, 55, 56, 57, 58, 59, 60, 61, 62, 63, 64] (σ := Nat × Value) (fun s => s.1 ≤ (startsR ps qs).length) (fun ⟨k, _⟩ => [(9, I k)]) (fun ⟨k, v⟩ => [.row v 55 3 0 false (((sumPs ps qs).take k).map pav), .blk b7 24 false [I d, .v v]]) _ (fun s => (startsR ps qs).length - s.1) (0, .slice none 0 0) (Nat.zero_le _) Qy (by exact List.Sublist.refl _) ?_
    conv => whnf
    rintro ⟨k, v⟩ i1
    simp only at i1
    dsimp only
    by_cases hk : k < (startsR ps qs).length
    · have hx := gAtD hk
      have hb := starts_mem h1 h2 (List.mem_of_getElem? hx)
      have ca := r5At_ok d _ ps h1 hb.1 hb.2
      have cb := r5At_ok d _ qs h2 hb.1 hb.2
      have sa := r5Slope_ok d _ ps h1 hb.1
      have sb := r5Slope_ok d _ qs h2 hb.1
      have na := numAt_bd h1 hb.1 hb.2
      have nb := numAt_bd h2 hb.1 hb.2
      have pa := pcAt_bd h1 hb.1
      have pb := pcAt_bd h2 hb.1
      have e2 := sum_take hx
      unfold sumP at e2
      have hb1 : (((sumPs ps qs).take k).map pav).length ≤ 200 := by
        rw [List.length_map, List.length_take]; omega
      repeat' ((conv => whnf) <;> (first | refine CK.anyK (id := 9) [0, 2, 3, 4, 5, 6, 7, 8, 9, 10, 11, 12, 13, 14, 15, 16, 17, 18, 19, 20, 21, 22, 23, 24, 25, 26, 27, 28, 29, 30, 31, 32, 33] [1, 34, 35, 36] _ (List.Sublist.cons _ (List.Sublist.cons _ (List.Sublist.refl _))) Qk ?_ | refine zM ?_ | refine zW ?_ | intro _ | exact zF | refine Br.tt ?_ | refine Br.ff ?_ | (refine Br.mk (fun h => ?_) (fun h => ?_) <;> (try simp only [sh] at h) <;> try first | (exfalso; omega) | exact absurd trivial h | (simp at h; done)) | refine zA ?_ | refine zN ?_ | refine zO ?_ | refine zP ?_ | refine zB ?_ | refine zL ent34 ca ?_ | refine zG ent34 (fun h => ca) ?_ | refine zL ent34 cb ?_ | refine zG ent34 (fun h => cb) ?_ | refine zL ent35 sa ?_ | refine zG ent35 (fun h => sa) ?_ | refine zL ent35 sb ?_ | refine zG ent35 (fun h => sb) ?_ | refine lB ?_ | refine lBA ?_ | refine rA ?_ | refine r1 ?_ | refine zK ?_ | refine s1 ?_ | refine sA ?_ | refine pS ?_ | refine LK.gr (Gr.bslV rfl rfl rfl rfl) ?_ | refine Ask.of (Gr.bslV rfl rfl rfl rfl) ?_ | refine Kx.nil ?_ | refine Kx.stp rfl rfl Qs ?_ | refine kA ?_ | refine kS ?_ | (refine Kx.frzR 0 rfl ?_ <;> refine kF ?_) | refine kP ?_ | refine k1 ?_ | refine kB ?_ | refine kL ?_ | refine zC ?_ | refine zD ?_ | fail))
      rename_i A q cp
      (conv => whnf); (refine Nxt.of ((k + 1, Value.slice A q cp)) [9, 23, 24, 25, 26, 27, 28, 29, 30, 31, 32, 33, 34, 35, 36, 37, 38, 39, 40, 41, 42, 43, 44, 45, 46, 47, 48, 49, 50, 51, 52, 53, 54, 55, 56, 57, 58, 59, 60, 61, 62, 63, 64] Qr Qr Qr ?_ ?_ Qy ?_ <;> (try dsimp only) <;> (try omega))
      rw [e2, List.map_append]
      exact Qs
    · obtain rfl : k = (startsR ps qs).length := by omega
      rw [← hsl, List.take_length]
      have hsm : ((sumPs ps qs).map pav).length = (sumPs ps qs).length := by simp
      unfold rav at cc ⊢
      repeat' ((conv => whnf) <;> (first | (refine LK.frzR 0 rfl ?_ <;> refine LK.see 65 rfl (Sb.agg (.cons (Sb.refl _) (.cons (Sb.row 0 rfl) .nil))) ?_ <;> refine LK.callA ent36 cc rfl rfl Ql ?_) | refine zM ?_ | refine zW ?_ | intro _ | exact zF | refine Br.tt ?_ | refine Br.ff ?_ | (refine Br.mk (fun h => ?_) (fun h => ?_) <;> (try simp only [sh] at h) <;> try first | (exfalso; omega) | exact absurd trivial h | (simp at h; done)) | refine zA ?_ | refine zN ?_ | refine zO ?_ | refine zP ?_ | refine zB ?_ | refine lB ?_ | refine lBA ?_ | refine rA ?_ | refine r1 ?_ | refine zK ?_ | refine s1 ?_ | refine sA ?_ | refine zC ?_ | fail))
      repeat' ((conv => whnf) <;> (first | refine zM ?_ | refine zW ?_ | intro _ | exact zF | refine Fin.pure ?_ | refine Br.tt ?_ | refine Br.ff ?_ | (refine Br.mk (fun h => ?_) (fun h => ?_) <;> (try simp only [sh] at h) <;> try first | (exfalso; omega) | exact absurd trivial h | (simp at h; done)) | refine zA ?_ | refine zN ?_ | refine zO ?_ | refine zP ?_ | refine zB ?_ | refine lB ?_ | refine lBA ?_ | refine rA ?_ | refine r1 ?_ | refine zK ?_ | refine s1 ?_ | refine sA ?_ | refine zC ?_ | fail))
  · rw [if_neg h]
    generalize bothR d ps e qs = b at *
    unfold rav
    refine fn_run (T := tab) Try.func12 rfl Try.ntmps12 rfl Try.results12 (fun _ => ?_)
    repeat' ((conv => whnf) <;> (first | (refine LK.see 15 rfl (Sb.agg (.cons (.refl _) (.cons (Sb.nil (k := 3)) .nil))) ?_) | refine zM ?_ | refine zW ?_ | intro _ | exact zF | refine Fin.pure ?_ | refine Br.tt ?_ | refine Br.ff ?_ | (refine Br.mk (fun h => ?_) (fun h => ?_) <;> (try simp only [sh] at h) <;> try first | (exfalso; omega) | exact absurd trivial h | (simp at h; done)) | refine zA ?_ | refine zN ?_ | refine zO ?_ | refine zP ?_ | refine zB ?_ | refine zL ent32 c1 ?_ | refine zG ent32 (fun h => c1) ?_ | refine lB ?_ | refine lBA ?_ | refine rA ?_ | refine r1 ?_ | refine zK ?_ | refine s1 ?_ | refine sA ?_ | refine zC ?_ | fail))
end Go.Proofs.Ytnekeokgognegaa
