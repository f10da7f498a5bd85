/-
  Walks: PiecewiseWhere.
  Conditions: those of each theorem.
-/
import Derived.Test.YtnekeokgognegaaU10
namespace Go.Proofs.Ytnekeokgognegaa
open Go.E2 Go.Wage
theorem argsR_bd {S : List Int} {y z c : Int} (hS : ∀ s ∈ S, 0 ≤ s ∧ s ≤ 1000000000000) (hy : 0 ≤ y ∧ y ≤ 1000000000000) (hz : 0 ≤ z) {k : Nat} (h : c ∈ argsR S y z k) : 0 ≤ c ∧ c ≤ 1000000000000 := by
  unfold argsR at h
  rw [List.mem_append, List.mem_flatMap] at h
  rcases h with h | ⟨s, hs, h⟩
  · simp only [List.mem_cons, List.not_mem_nil, or_false] at h
    omega
  · have := hS s (List.mem_of_mem_take hs)
    simp only [List.mem_cons, List.not_mem_nil, or_false] at h
    omega
def ends1 (s : Sp) : List Int := [s.1, max 0 (s.1 - 1), s.2 - 1, min 1000000000000 s.2]
def allW (A : List Int) (W : List Sp) (k : Nat) : List Int := A ++ (W.take k).flatMap ends1
theorem allW_succ {A : List Int} {W : List Sp} {k : Nat} (hk : k < W.length) : allW A W (k + 1) = allW A W k ++ ends1 (W.getD k default) := by
  unfold allW
  rw [List.take_succ_eq_append_getElem hk, List.flatMap_append, List.append_assoc, List.getD_eq_getElem?_getD, List.getElem?_eq_getElem hk]
  simp
theorem allW_len (A : List Int) (W : List Sp) (k : Nat) : (allW A W k).length ≤ A.length + 4 * k := by
  have : ∀ l : List Sp, (l.flatMap ends1).length = 4 * l.length := fun l => by
    induction l with
    | nil => rfl
    | cons s l ih => rw [List.flatMap_cons, List.length_append, ih, List.length_cons]; simp [ends1]; omega
  unfold allW
  rw [List.length_append, this, List.length_take]
  omega
theorem allW_bd {A : List Int} {W : List Sp} (hA : ∀ c ∈ A, 0 ≤ c ∧ c ≤ 1000000000000) (hW : ∀ i, i < W.length → 0 ≤ (W.getD i default).1 ∧ (W.getD i default).1 < (W.getD i default).2 ∧ (W.getD i default).2 ≤ 1000000000001) {c : Int} (h : c ∈ allW A W W.length) : 0 ≤ c ∧ c ≤ 1000000000000 := by
  unfold allW at h
  rw [List.mem_append, List.take_length, List.mem_flatMap] at h
  rcases h with h | ⟨s, hs, h⟩
  · exact hA c h
  · obtain ⟨i, hi⟩ := List.getElem?_of_mem hs
    have hb := hW i (List.getElem?_eq_some_iff.1 hi).1
    rw [List.getD_eq_getElem?_getD, hi] at hb
    simp only [Option.getD_some] at hb
    simp only [ends1, List.mem_cons, List.not_mem_nil, or_false] at h
    omega
set_option maxRecDepth 4000 in
set_option maxHeartbeats 16000000 in
theorem qWhere_ok (l : List T3) (den low high x : Int) (hl : ∀ t ∈ l, T3ok t) (hlen : l.length ≤ 9223372036854775807) (hd : inI den) (hlo : inI low) (hhi : inI high) (hx : inI x) :
    FnA Try.prog 6 [.sl 3 (l.map tav), I den, I low, I high, I x] (B true) := by
  have c0 := qHead_ok
  have c1 := qMade_ok den l hd hl hlen
  have c2 := pick_ok low 4000001 hlo (by omega)
  have c3 := pick_ok high 2000000 hhi (by omega)
  have b2 := pickR_bd low (n := 4000001) (by omega)
  have b3 := pickR_bd high (n := 2000000) (by omega)
  have hp := madeM_valid den l
  generalize denM den = D at *
  generalize madeM den l = ps at *
  generalize pickR low 4000001 = lo at *
  generalize pickR high 2000000 = hi at *
  have hv := valid_parts hp
  have c4 := pWhere_ok D (lo - 2000000) (lo - 2000000 + hi) ps hp (by omega) (by omega)
  have c5 := pWhere_ok D (lo - 2000000 + hi + 1) (lo - 2000000 + hi) ps hp (by omega) (by omega)
  rw [fnd_none hp (by omega), nrm_nil] at c5
  have hW := wOk (low := lo - 2000000) (high := lo - 2000000 + hi) hp
  generalize nrm (fndR D (lo - 2000000) (lo - 2000000 + hi) ps (spsR ps []).length) = W at *
  obtain ⟨w1, w2, w3, w4⟩ := hW
  have c6 := qArgs_ok D D x ps ps hx hp hp
  have hA : ∀ c ∈ argsR (startsR ps ps) (pickR x 1000000000001) (pickR x 1000) (startsR ps ps).length, 0 ≤ c ∧ c ≤ 1000000000000 := fun c hc => by
    have g1 := pickR_bd x (n := 1000000000001) (by omega)
    have g2 := pickR_bd x (n := 1000) (by omega)
    exact argsR_bd (fun s hs => starts_bd hp (.inr hp) hs) (by omega) (by omega) hc
  have hAl := argsR_len (startsR ps ps) (pickR x 1000000000001) (pickR x 1000) (startsR ps ps).length
  have hSl := starts_len (ps := ps) (qs := ps)
  generalize argsR (startsR ps ps) (pickR x 1000000000001) (pickR x 1000) (startsR ps ps).length = A at *
  have hWm : (W.map spav).length = W.length := by simp
  have hall : (allW A W W.length).length ≤ 2000 := by
    have := allW_len A W W.length
    omega
  have hallb := fun c hc => allW_bd hA w2 (c := c) hc
  have m1 : -2000000000000 ≤ (lo - 2000000) * D ∧ (lo - 2000000) * D ≤ 2000000000000 := by
    have a1 : (lo - 2000000) * D ≤ 2000000 * D := Int.mul_le_mul_of_nonneg_right (by omega) (by omega)
    have a2 : -2000000 * D ≤ (lo - 2000000) * D := Int.mul_le_mul_of_nonneg_right (by omega) (by omega)
    omega
  have m2 : -4000000000000 ≤ (lo - 2000000 + hi) * D ∧ (lo - 2000000 + hi) * D ≤ 4000000000000 := by
    have a1 : (lo - 2000000 + hi) * D ≤ 4000000 * D := Int.mul_le_mul_of_nonneg_right (by omega) (by omega)
    have a2 : -2000000 * D ≤ (lo - 2000000 + hi) * D := Int.mul_le_mul_of_nonneg_right (by omega) (by omega)
    omega
  refine fn_run (T := tab) Try.func6 rfl Try.ntmps6 rfl Try.results6 (fun _ => ?_)
  repeat' ((conv => whnf) <;> (first | refine zM ?_ | refine zW ?_ | intro _ | exact zF | refine Br.tt ?_ | refine Br.ff ?_ | (refine Br.mk (fun h => ?_) (fun h => ?_) <;> (try simp only [sh] at h) <;> try first | (exfalso; omega) | exact absurd trivial h | (simp at h; done)) | refine zA ?_ | refine zN ?_ | refine zO ?_ | refine zP ?_ | refine zB ?_ | refine zL ent9 c0 ?_ | refine zG ent9 (fun h => c0) ?_ | refine zL ent10 c1 ?_ | refine zG ent10 (fun h => c1) ?_ | refine zL ent17 c2 ?_ | refine zG ent17 (fun h => c2) ?_ | refine zL ent17 c3 ?_ | refine zG ent17 (fun h => c3) ?_ | refine zL ent15 c4 ?_ | refine zG ent15 (fun h => c4) ?_ | refine zL ent15 c5 ?_ | refine zG ent15 (fun h => c5) ?_ | (refine LK.call ent26 (c6) rfl rfl Ql (fun _ _ hcall => ?_) <;> obtain ⟨v0, rfl, rfl⟩ := hcall) | refine lB ?_ | refine lBA ?_ | refine zK ?_ | refine s1 ?_ | refine sA ?_ | refine zC ?_ | fail))
  · exfalso
    rw [List.length_nil] at h
    omega
  repeat' ((conv => whnf) <;> (first | refine zM ?_ | refine zW ?_ | intro _ | exact zF | refine Br.tt ?_ | refine Br.ff ?_ | (refine Br.mk (fun h => ?_) (fun h => ?_) <;> (try simp only [sh] at h) <;> try first | (exfalso; omega) | exact absurd trivial h | (simp at h; done)) | refine zA ?_ | refine zN ?_ | refine zO ?_ | refine zP ?_ | refine zB ?_ | refine lB ?_ | refine lBA ?_ | refine zK ?_ | refine s1 ?_ | refine sA ?_ | refine zC ?_ | fail))
  (conv => whnf); refine CK.loopK [10, 17, 18, 70, 71, 72, 73, 74, 75, 76, 77, 78, 79, 80, 81, 82, 83, 84, 85, 86, 87, 88, 89, 90, 91, 92, 93, 94, 95, 96, 97, 98, 99, 100, 101, 102, 103, 104, 105, 106, 107, 108, 109, 110, 111, 112, 113, 114, 115, 116, 117, 118, 119, 120, 121, 122, 123, 124, 125, 126, 127, 128, 129, 130, 131, 132, 133, 134, 135, 136, 137, 138, 139, 140, 141, 142, 143, 144, 145, 146, 147] (σ := ArQ) (fun q => q.k ≤ W.length) (fun q => [(18, I q.k), (17, .v q.v)]) (fun q => [.row q.v 3 1 0 false ((allW A W q.k).map I)]) _ (fun q => W.length - q.k) ⟨0, v0⟩ (by simp) Qy (by dsimp only; rw [show allW A W 0 = A by simp [allW]]; exact List.Sublist.refl _) ?_
  conv => whnf
  rintro ⟨k, v⟩ i1
  simp only at i1
  dsimp only
  by_cases hk : k < W.length
  · have f2 := w2 k hk
    have f3 : (k : Int) ≤ 0 ∨ (W.getD (k - 1) default).2 < (W.getD k default).1 := by
      by_cases h0 : k = 0
      · omega
      · have := w3 (k - 1) (by omega)
        rw [show k - 1 + 1 = k by omega] at this
        exact .inr this
    have hal := allW_len A W k
    have hal' : ((allW A W k).map I).length ≤ 2000 := by rw [List.length_map]; omega
    have hsu := allW_succ (A := A) hk
    unfold ends1 at hsu
    repeat' ((conv => whnf) <;> (first | refine CK.anyK (id := 15) [0, 1, 2, 3, 4, 5, 6, 7, 8, 9, 10, 11, 12, 13, 14, 15, 16, 17, 18, 19, 20, 21, 22, 23, 24, 25] [26, 27] _ (List.Sublist.cons _ (List.Sublist.refl _)) Qk ?_ | refine CK.anyK (id := 13) [0, 1, 2, 3, 4, 5, 6, 7, 8, 9, 10, 11, 12, 13, 14, 15, 16, 17, 18, 19, 20, 21, 22, 23, 24, 25, 26, 27, 28, 29, 30, 31, 32, 33, 34, 35, 36, 37, 38, 39, 40, 41, 42, 43, 44] [] _ (List.Sublist.refl _) Qk ?_ | refine zM ?_ | refine zW ?_ | intro _ | exact zF | refine Br.tt ?_ | refine Br.ff ?_ | (refine Br.mk (fun h => ?_) (fun h => ?_) <;> (try simp only [sh] at h) <;> try first | (exfalso; omega) | exact absurd trivial h | (simp at h; done)) | refine zA ?_ | refine zN ?_ | refine zO ?_ | refine zP ?_ | refine zB ?_ | refine lB ?_ | refine lBA ?_ | refine zK ?_ | refine s1 ?_ | refine sA ?_ | refine pS ?_ | refine LK.gr (Gr.bslV rfl rfl rfl rfl) ?_ | refine Ask.of (Gr.bslV rfl rfl rfl rfl) ?_ | refine Kx.nil ?_ | refine Kx.stp rfl rfl Qs ?_ | refine kA ?_ | refine kS ?_ | (refine Kx.frzR 0 rfl ?_ <;> refine kF ?_) | refine kP ?_ | refine k1 ?_ | refine kB ?_ | refine kL ?_ | refine zC ?_ | refine zD ?_ | fail))
    · rename_i A' q cp
      (conv => whnf); (refine Nxt.of (⟨k + 1, Value.slice A' q cp⟩) [10, 17, 18, 70, 71, 72, 73, 74, 75, 76, 77, 78, 79, 80, 81, 82, 83, 84, 85, 86, 87, 88, 89, 90, 91, 92, 93, 94, 95, 96, 97, 98, 99, 100, 101, 102, 103, 104, 105, 106, 107, 108, 109, 110, 111, 112, 113, 114, 115, 116, 117, 118, 119, 120, 121, 122, 123, 124, 125, 126, 127, 128, 129, 130, 131, 132, 133, 134, 135, 136, 137, 138, 139, 140, 141, 142, 143, 144, 145, 146, 147] Qr Qr Qr ?_ ?_ Qy ?_ <;> (try dsimp only) <;> (try omega))
      rw [hsu, List.map_append]
      exact Qs
  · obtain rfl : k = W.length := by omega
    generalize allW A W W.length = ALL at *
    have hALm : (ALL.map I).length = ALL.length := by simp
    repeat' ((conv => whnf) <;> (first | refine nR (T := tab) ?_ | refine zM ?_ | refine zW ?_ | intro _ | exact zF | refine Br.tt ?_ | refine Br.ff ?_ | (refine Br.mk (fun h => ?_) (fun h => ?_) <;> (try simp only [sh] at h) <;> try first | (exfalso; omega) | exact absurd trivial h | (simp at h; done)) | refine zA ?_ | refine zN ?_ | refine zO ?_ | refine zP ?_ | refine zB ?_ | refine lB ?_ | refine lBA ?_ | refine zK ?_ | refine s1 ?_ | refine sA ?_ | refine zC ?_ | fail))
    (conv => whnf); refine CK.loopK [11, 20, 21, 22, 23, 150, 151, 152, 153, 154, 155, 156, 157, 158, 159, 160, 161, 162, 163, 164, 165, 166, 167, 168, 169, 170, 171, 172, 173, 174, 175, 176, 177, 178, 179, 180, 181, 182, 183, 184] (σ := Nat) (fun k => k ≤ ALL.length) (fun k => [(11, B true), (150, I k)]) (fun _ => []) _ (fun k => ALL.length - k) 0 (Nat.zero_le _) Qy (by exact List.Sublist.refl _) ?_
    conv => whnf
    rintro k i2
    by_cases hk2 : k < ALL.length
    · have hcb := hallb (ALL.getD k default) (List.mem_of_getElem? (gAtD hk2))
      have d1 := pEval_ok D (ALL.getD k default) ps (by omega)
      rw [show evalR D ps (ALL.getD k default) = (numAt ps (ALL.getD k default), D, 0) from if_pos ⟨hp, by unfold argB; rw [decide_eq_true hcb.1, decide_eq_true hcb.2]; rfl⟩] at d1
      change FnA Try.prog 22 _ (.tup [I (numAt ps (ALL.getD k default)), I D, I 0]) at d1
      have d2 := r4Has_ok W (ALL.getD k default) (by omega)
      rw [w4 _ hcb.1 hcb.2] at d2
      have nb := numAt_bd hp hcb.1 hcb.2
      repeat' ((conv => whnf) <;> (first | refine lM0 (T := tab) ?_ | refine iR (T := tab) ?_ | refine zM ?_ | refine zW ?_ | intro _ | exact zF | refine Br.tt ?_ | refine Br.ff ?_ | (refine Br.mk (fun h => ?_) (fun h => ?_) <;> (try simp only [sh] at h) <;> try first | (exfalso; omega) | exact absurd trivial h | (simp at h; done)) | refine zA ?_ | refine zN ?_ | refine zO ?_ | refine zP ?_ | refine zB ?_ | refine zL ent22 d1 ?_ | refine zG ent22 (fun h => d1) ?_ | refine zL ent27 d2 ?_ | refine zG ent27 (fun h => d2) ?_ | refine lB ?_ | refine lBA ?_ | refine zK ?_ | refine s1 ?_ | refine sA ?_ | refine zC ?_ | fail))
      rw [beq_self_eq_true]
      (conv => whnf); (refine Nxt.of (k + 1) [11, 20, 21, 22, 23, 150, 151, 152, 153, 154, 155, 156, 157, 158, 159, 160, 161, 162, 163, 164, 165, 166, 167, 168, 169, 170, 171, 172, 173, 174, 175, 176, 177, 178, 179, 180, 181, 182, 183, 184] Qr Qr Qr ?_ ?_ Qy Qs <;> (try dsimp only) <;> (try omega))
    · repeat' ((conv => whnf) <;> (first | refine zM ?_ | refine zW ?_ | intro _ | exact zF | refine Fin.pure ?_ | refine Br.tt ?_ | refine Br.ff ?_ | (refine Br.mk (fun h => ?_) (fun h => ?_) <;> (try simp only [sh] at h) <;> try first | (exfalso; omega) | exact absurd trivial h | (simp at h; done)) | refine zA ?_ | refine zN ?_ | refine zO ?_ | refine zP ?_ | refine zB ?_ | refine lB ?_ | refine lBA ?_ | refine zK ?_ | refine s1 ?_ | refine sA ?_ | refine zC ?_ | fail))
      all_goals done
end Go.Proofs.Ytnekeokgognegaa
