/-
  Walks: the reference's merge sort and normal form.
  Conditions: those of each theorem.
-/
import Derived.Test.YtnekeokgognegaaU16
import Derived.Test.YtnekeokgognegaaUI
namespace Go.Proofs.Ytnekeokgognegaa
open Go.E2 Go.Wage
structure MgS where
  i : Nat
  k : Nat
  v : Value
  acc : List Sp
theorem drop_consM {es : List Sp} {k : Nat} (h : k < es.length) : es.drop k = es.getD k default :: es.drop (k + 1) := by
  rw [List.drop_eq_getElem_cons h, List.getD_eq_getElem?_getD, List.getElem?_eq_getElem h]
  rfl
set_option maxRecDepth 4000 in
set_option maxHeartbeats 8000000 in
theorem r4merge_ok (a b : List Sp) (hab : a.length + b.length ≤ 1000000000) : FnA Try.prog 58 [.sl 2 (a.map spav), .sl 2 (b.map spav)] (.sl 2 ((mrg a b).map spav)) := by
  have hla : (a.map spav).length = a.length := by simp
  have hlb : (b.map spav).length = b.length := by simp
  refine fn_run (T := tab) Try.func58 rfl Try.ntmps58 rfl Try.results58 (fun _ => ?_)
  repeat' ((conv => whnf) <;> (first | refine zM ?_ | refine zW ?_ | intro _ | exact zF | refine Br.tt ?_ | refine Br.ff ?_ | (refine Br.mk (fun h => ?_) (fun h => ?_) <;> (try simp only [sh] at h) <;> try first | (exfalso; omega) | exact absurd trivial h | (simp at h; done)) | refine zA ?_ | refine zN ?_ | refine zO ?_ | refine zP ?_ | refine zB ?_ | refine zQ ?_ | refine Quo.t Qw ?_ | refine lB ?_ | refine lBA ?_ | refine zK ?_ | refine s1 ?_ | refine sA ?_ | refine zC ?_ | fail))
  conv => whnf
  refine CK.nilrow 50 2 ?_
  (conv => whnf); refine CK.loopK [5, 6, 7, 8, 9, 10, 11, 12, 13, 14, 15, 16, 17, 18, 19, 20, 21, 22, 23, 24, 25, 26, 27, 28, 29, 30, 31, 32, 33, 34, 35, 36, 37, 38, 39, 40, 41, 42, 43, 44, 45, 46, 47, 48, 49, 50, 51, 52, 53, 54, 55, 56, 57, 58] (σ := MgS) (fun q => q.i ≤ a.length ∧ q.k ≤ b.length ∧ q.acc.length = q.i + q.k ∧ mrg a b = q.acc ++ mrg (a.drop q.i) (b.drop q.k)) (fun q => [(6, I q.i), (7, I q.k), (5, .v q.v)]) (fun q => [.row q.v 50 2 0 false (q.acc.map spav)]) _ (fun q => a.length - q.i + (b.length - q.k)) ⟨0, 0, .slice none 0 0, []⟩ ⟨by simp, by simp, by simp, rfl⟩ Qy (by exact List.Sublist.refl _) ?_
  conv => whnf
  rintro ⟨i, k, v, acc⟩ ⟨i1, i2, i3, i4⟩
  simp only at i1 i2 i3 i4
  dsimp only
  have hlc : (acc.map spav).length = acc.length := by simp
  by_cases hi : i < a.length
  · rw [drop_consM hi] at i4
    by_cases hk : k < b.length
    · rw [drop_consM hk, mrg_cons] at i4
      by_cases hc : (a.getD i default).1 ≤ (b.getD k default).1
      · rw [if_pos hc, ← drop_consM hk] at i4
        repeat' ((conv => whnf) <;> (first | refine CK.anyK (id := 5) [0, 1, 2, 3, 4, 5, 6, 7, 8, 9, 10, 11, 12, 13, 14, 15, 16, 17, 18, 19, 20, 21, 22] [] _ (List.Sublist.refl _) Qk ?_ | refine zM ?_ | refine zW ?_ | intro _ | exact zF | refine Br.tt ?_ | refine Br.ff ?_ | (refine Br.mk (fun h => ?_) (fun h => ?_) <;> (try simp only [sh] at h) <;> try first | (exfalso; omega) | exact absurd trivial h | (simp at h; done)) | refine zA ?_ | refine zN ?_ | refine zO ?_ | refine zP ?_ | refine zB ?_ | refine zQ ?_ | refine Quo.t Qw ?_ | refine lB ?_ | refine lBA ?_ | refine zK ?_ | refine s1 ?_ | refine sA ?_ | refine pS ?_ | refine LK.gr (Gr.bslV rfl rfl rfl rfl) ?_ | refine Ask.of (Gr.bslV rfl rfl rfl rfl) ?_ | refine Kx.nil ?_ | refine Kx.stp rfl rfl Qs ?_ | refine kA ?_ | refine kS ?_ | (refine Kx.frzR 0 rfl ?_ <;> refine kF ?_) | refine kP ?_ | refine k1 ?_ | refine kB ?_ | refine kL ?_ | refine zC ?_ | refine zD ?_ | fail))
        rename_i A q cp
        (conv => whnf); (refine Nxt.of (⟨i + 1, k, Value.slice A q cp, acc ++ [a.getD i default]⟩) [5, 6, 7, 8, 9, 10, 11, 12, 13, 14, 15, 16, 17, 18, 19, 20, 21, 22, 23, 24, 25, 26, 27, 28, 29, 30, 31, 32, 33, 34, 35, 36, 37, 38, 39, 40, 41, 42, 43, 44, 45, 46, 47, 48, 49, 50, 51, 52, 53, 54, 55, 56, 57, 58] Qr Qr Qr ?_ ?_ Qy ?_ <;> (try dsimp only) <;> (try omega))
        · exact ⟨by omega, by omega, by simp only [List.length_append, List.length_singleton]; omega, by rw [i4, List.append_assoc]; rfl⟩
        · rw [List.map_append]
          exact Qs
      · rw [if_neg hc, ← drop_consM hi] at i4
        repeat' ((conv => whnf) <;> (first | refine CK.anyK (id := 5) [0, 1, 2, 3, 4, 5, 6, 7, 8, 9, 10, 11, 12, 13, 14, 15, 16, 17, 18, 19, 20, 21, 22] [] _ (List.Sublist.refl _) Qk ?_ | refine zM ?_ | refine zW ?_ | intro _ | exact zF | refine Br.tt ?_ | refine Br.ff ?_ | (refine Br.mk (fun h => ?_) (fun h => ?_) <;> (try simp only [sh] at h) <;> try first | (exfalso; omega) | exact absurd trivial h | (simp at h; done)) | refine zA ?_ | refine zN ?_ | refine zO ?_ | refine zP ?_ | refine zB ?_ | refine zQ ?_ | refine Quo.t Qw ?_ | refine lB ?_ | refine lBA ?_ | refine zK ?_ | refine s1 ?_ | refine sA ?_ | refine pS ?_ | refine LK.gr (Gr.bslV rfl rfl rfl rfl) ?_ | refine Ask.of (Gr.bslV rfl rfl rfl rfl) ?_ | refine Kx.nil ?_ | refine Kx.stp rfl rfl Qs ?_ | refine kA ?_ | refine kS ?_ | (refine Kx.frzR 0 rfl ?_ <;> refine kF ?_) | refine kP ?_ | refine k1 ?_ | refine kB ?_ | refine kL ?_ | refine zC ?_ | refine zD ?_ | fail))
        rename_i A q cp
        (conv => whnf); (refine Nxt.of (⟨i, k + 1, Value.slice A q cp, acc ++ [b.getD k default]⟩) [5, 6, 7, 8, 9, 10, 11, 12, 13, 14, 15, 16, 17, 18, 19, 20, 21, 22, 23, 24, 25, 26, 27, 28, 29, 30, 31, 32, 33, 34, 35, 36, 37, 38, 39, 40, 41, 42, 43, 44, 45, 46, 47, 48, 49, 50, 51, 52, 53, 54, 55, 56, 57, 58] Qr Qr Qr ?_ ?_ Qy ?_ <;> (try dsimp only) <;> (try omega))
        · exact ⟨by omega, by omega, by simp only [List.length_append, List.length_singleton]; omega, by rw [i4, List.append_assoc]; rfl⟩
        · rw [List.map_append]
          exact Qs
    · rw [List.drop_eq_nil_of_le (show b.length ≤ k by omega), mrg_nil'] at i4
      repeat' ((conv => whnf) <;> (first | refine CK.anyK (id := 5) [0, 1, 2, 3, 4, 5, 6, 7, 8, 9, 10, 11, 12, 13, 14, 15, 16, 17, 18, 19, 20, 21, 22] [] _ (List.Sublist.refl _) Qk ?_ | refine zM ?_ | refine zW ?_ | intro _ | exact zF | refine Br.tt ?_ | refine Br.ff ?_ | (refine Br.mk (fun h => ?_) (fun h => ?_) <;> (try simp only [sh] at h) <;> try first | (exfalso; omega) | exact absurd trivial h | (simp at h; done)) | refine zA ?_ | refine zN ?_ | refine zO ?_ | refine zP ?_ | refine zB ?_ | refine zQ ?_ | refine Quo.t Qw ?_ | refine lB ?_ | refine lBA ?_ | refine zK ?_ | refine s1 ?_ | refine sA ?_ | refine pS ?_ | refine LK.gr (Gr.bslV rfl rfl rfl rfl) ?_ | refine Ask.of (Gr.bslV rfl rfl rfl rfl) ?_ | refine Kx.nil ?_ | refine Kx.stp rfl rfl Qs ?_ | refine kA ?_ | refine kS ?_ | (refine Kx.frzR 0 rfl ?_ <;> refine kF ?_) | refine kP ?_ | refine k1 ?_ | refine kB ?_ | refine kL ?_ | refine zC ?_ | refine zD ?_ | fail))
      rename_i A q cp
      (conv => whnf); (refine Nxt.of (⟨i + 1, k, Value.slice A q cp, acc ++ [a.getD i default]⟩) [5, 6, 7, 8, 9, 10, 11, 12, 13, 14, 15, 16, 17, 18, 19, 20, 21, 22, 23, 24, 25, 26, 27, 28, 29, 30, 31, 32, 33, 34, 35, 36, 37, 38, 39, 40, 41, 42, 43, 44, 45, 46, 47, 48, 49, 50, 51, 52, 53, 54, 55, 56, 57, 58] Qr Qr Qr ?_ ?_ Qy ?_ <;> (try dsimp only) <;> (try omega))
      · exact ⟨by omega, by omega, by simp only [List.length_append, List.length_singleton]; omega, by rw [i4, List.append_assoc, List.drop_eq_nil_of_le (show b.length ≤ k by omega), mrg_nil']; rfl⟩
      · rw [List.map_append]
        exact Qs
  · have ei : i = a.length := by omega
    subst ei
    rw [List.drop_length, mrg_nil] at i4
    by_cases hk : k < b.length
    · rw [drop_consM hk] at i4
      repeat' ((conv => whnf) <;> (first | refine CK.anyK (id := 5) [0, 1, 2, 3, 4, 5, 6, 7, 8, 9, 10, 11, 12, 13, 14, 15, 16, 17, 18, 19, 20, 21, 22] [] _ (List.Sublist.refl _) Qk ?_ | refine zM ?_ | refine zW ?_ | intro _ | exact zF | refine Br.tt ?_ | refine Br.ff ?_ | (refine Br.mk (fun h => ?_) (fun h => ?_) <;> (try simp only [sh] at h) <;> try first | (exfalso; omega) | exact absurd trivial h | (simp at h; done)) | refine zA ?_ | refine zN ?_ | refine zO ?_ | refine zP ?_ | refine zB ?_ | refine zQ ?_ | refine Quo.t Qw ?_ | refine lB ?_ | refine lBA ?_ | refine zK ?_ | refine s1 ?_ | refine sA ?_ | refine pS ?_ | refine LK.gr (Gr.bslV rfl rfl rfl rfl) ?_ | refine Ask.of (Gr.bslV rfl rfl rfl rfl) ?_ | refine Kx.nil ?_ | refine Kx.stp rfl rfl Qs ?_ | refine kA ?_ | refine kS ?_ | (refine Kx.frzR 0 rfl ?_ <;> refine kF ?_) | refine kP ?_ | refine k1 ?_ | refine kB ?_ | refine kL ?_ | refine zC ?_ | refine zD ?_ | fail))
      rename_i A q cp
      (conv => whnf); (refine Nxt.of (⟨a.length, k + 1, Value.slice A q cp, acc ++ [b.getD k default]⟩) [5, 6, 7, 8, 9, 10, 11, 12, 13, 14, 15, 16, 17, 18, 19, 20, 21, 22, 23, 24, 25, 26, 27, 28, 29, 30, 31, 32, 33, 34, 35, 36, 37, 38, 39, 40, 41, 42, 43, 44, 45, 46, 47, 48, 49, 50, 51, 52, 53, 54, 55, 56, 57, 58] Qr Qr Qr ?_ ?_ Qy ?_ <;> (try dsimp only) <;> (try omega))
      · exact ⟨by omega, by omega, by simp only [List.length_append, List.length_singleton]; omega, by rw [i4, List.append_assoc, List.drop_length, mrg_nil]; rfl⟩
      · rw [List.map_append]
        exact Qs
    · have ek : k = b.length := by omega
      subst ek
      rw [List.drop_length, List.append_nil] at i4
      rw [i4]
      repeat' ((conv => whnf) <;> (first | refine zM ?_ | refine zW ?_ | intro _ | exact zF | refine Br.tt ?_ | refine Br.ff ?_ | (refine Br.mk (fun h => ?_) (fun h => ?_) <;> (try simp only [sh] at h) <;> try first | (exfalso; omega) | exact absurd trivial h | (simp at h; done)) | refine zA ?_ | refine zN ?_ | refine zO ?_ | refine zP ?_ | refine zB ?_ | refine zQ ?_ | refine Quo.t Qw ?_ | refine lB ?_ | refine lBA ?_ | refine zK ?_ | refine s1 ?_ | refine sA ?_ | refine zC ?_ | fail))
      conv => whnf
      refine Fin.frzR 0 rfl ?_
      exact Fin.seeP (Sb.row 0 rfl)
set_option maxHeartbeats 4000000 in
theorem r4sorted_ok : ∀ (n : Nat) (l : List Sp), l.length ≤ n → l.length ≤ 1000000000 → FnA Try.prog 53 [.sl 2 (l.map spav)] (.sl 2 ((srt n l).map spav))
  | 0, l, h, _ => by
    have : l = [] := List.eq_nil_of_length_eq_zero (by omega)
    subst this
    refine fn_run (T := tab) Try.func53 rfl Try.ntmps53 rfl Try.results53 (fun _ => ?_)
    repeat' ((conv => whnf) <;> (first | refine zM ?_ | refine zW ?_ | intro _ | exact zF | refine Fin.pure ?_ | refine Br.tt ?_ | refine Br.ff ?_ | (refine Br.mk (fun h => ?_) (fun h => ?_) <;> (try simp only [sh] at h) <;> try first | (exfalso; omega) | exact absurd trivial h | (simp at h; done)) | refine zA ?_ | refine zN ?_ | refine zO ?_ | refine zP ?_ | refine zB ?_ | refine zQ ?_ | refine Quo.t Qw ?_ | refine lB ?_ | refine lBA ?_ | refine zK ?_ | refine s1 ?_ | refine sA ?_ | refine zC ?_ | fail))
  | n + 1, l, h, hm => by
    have hl : (l.map spav).length = l.length := by simp
    unfold srt
    by_cases h2 : l.length < 2
    · rw [if_pos h2]
      refine fn_run (T := tab) Try.func53 rfl Try.ntmps53 rfl Try.results53 (fun _ => ?_)
      repeat' ((conv => whnf) <;> (first | refine zM ?_ | refine zW ?_ | intro _ | exact zF | refine Fin.pure ?_ | refine Br.tt ?_ | refine Br.ff ?_ | (refine Br.mk (fun h => ?_) (fun h => ?_) <;> (try simp only [sh] at h) <;> try first | (exfalso; omega) | exact absurd trivial h | (simp at h; done)) | refine zA ?_ | refine zN ?_ | refine zO ?_ | refine zP ?_ | refine zB ?_ | refine zQ ?_ | refine Quo.t Qw ?_ | refine lB ?_ | refine lBA ?_ | refine zK ?_ | refine s1 ?_ | refine sA ?_ | refine zC ?_ | fail))
    · rw [if_neg h2]
      have e : (((l.map spav).length : Int) / 2).toNat = l.length / 2 := by omega
      have c1 := r4sorted_ok n (l.take (l.length / 2)) (by rw [List.length_take]; omega) (by rw [List.length_take]; omega)
      have c2 := r4sorted_ok n (l.drop (l.length / 2)) (by rw [List.length_drop]; omega) (by rw [List.length_drop]; omega)
      have c3 := r4merge_ok (srt n (l.take (l.length / 2))) (srt n (l.drop (l.length / 2))) (by
        rw [(srt_perm n _).length_eq, (srt_perm n _).length_eq, List.length_take, List.length_drop]; omega)
      generalize srt n (l.take (l.length / 2)) = a at *
      generalize srt n (l.drop (l.length / 2)) = b at *
      rw [List.map_take, ← e] at c1
      rw [List.map_drop, ← e] at c2
      refine fn_run (T := tab) Try.func53 rfl Try.ntmps53 rfl Try.results53 (fun _ => ?_)
      repeat' ((conv => whnf) <;> (first | refine zM ?_ | refine zW ?_ | intro _ | exact zF | refine Fin.pure ?_ | refine Br.tt ?_ | refine Br.ff ?_ | (refine Br.mk (fun h => ?_) (fun h => ?_) <;> (try simp only [sh] at h) <;> try first | (exfalso; omega) | exact absurd trivial h | (simp at h; done)) | refine zA ?_ | refine zN ?_ | refine zO ?_ | refine zP ?_ | refine zB ?_ | refine zQ ?_ | refine Quo.t Qw ?_ | refine zL ent53 c1 ?_ | refine zG ent53 (fun h => c1) ?_ | refine zL ent53 c2 ?_ | refine zG ent53 (fun h => c2) ?_ | refine zL ent58 c3 ?_ | refine zG ent58 (fun h => c3) ?_ | refine lB ?_ | refine lBA ?_ | refine zK ?_ | refine s1 ?_ | refine sA ?_ | refine zC ?_ | fail))
structure NmS where
  k : Nat
  v : Value
  acc : List Sp
theorem last_get {acc : List Sp} (h : acc ≠ []) : acc.getLast? = some (acc.getD (acc.length - 1) default) := by
  have hl : 0 < acc.length := List.length_pos_iff.2 h
  rw [List.getLast?_eq_getElem?, gAtD (by omega)]
set_option maxRecDepth 4000 in
set_option maxHeartbeats 8000000 in
theorem r4Normal_ok (l : List Sp) (hm : l.length ≤ 1000000000) : FnA Try.prog 42 [.sl 2 (l.map spav)] (.sl 2 ((nrm l).map spav)) := by
  have cs := r4sorted_ok l.length l (Nat.le_refl _) hm
  have hsl : (srt l.length l).length = l.length := (srt_perm _ _).length_eq
  rw [← nrm4_eq]
  generalize srt l.length l = S at *
  have hS : (S.map spav).length = S.length := by simp
  refine fn_run (T := tab) Try.func42 rfl Try.ntmps42 rfl Try.results42 (fun _ => ?_)
  repeat' ((conv => whnf) <;> (first | refine zM ?_ | refine zW ?_ | intro _ | exact zF | refine Br.tt ?_ | refine Br.ff ?_ | (refine Br.mk (fun h => ?_) (fun h => ?_) <;> (try simp only [sh] at h) <;> try first | (exfalso; omega) | exact absurd trivial h | (simp at h; done)) | refine zA ?_ | refine zN ?_ | refine zO ?_ | refine zP ?_ | refine zB ?_ | refine zQ ?_ | refine Quo.t Qw ?_ | refine zL ent53 cs ?_ | refine zG ent53 (fun h => cs) ?_ | refine lB ?_ | refine lBA ?_ | refine zK ?_ | refine s1 ?_ | refine sA ?_ | refine zC ?_ | fail))
  conv => whnf
  refine CK.nilrow 50 2 ?_
  (conv => whnf); refine CK.loopK [3, 5, 6, 9, 10, 11, 12, 13, 14, 15, 16, 17, 18, 19, 20, 21, 22, 23, 24, 25, 26, 27, 28, 29, 30, 31, 32, 33, 34, 35, 36, 37, 38, 39, 40, 41, 42, 43, 44, 45, 46, 47, 48, 49, 50, 51, 52, 53, 54, 55, 56, 57, 58, 59, 60, 61, 62] (σ := NmS) (fun q => q.k ≤ S.length ∧ q.acc.length ≤ q.k ∧ S.foldl nst [] = (S.drop q.k).foldl nst q.acc) (fun q => [(5, I q.k), (3, .v q.v)]) (fun q => [.row q.v 50 2 0 false (q.acc.map spav)]) _ (fun q => S.length - q.k) ⟨0, .slice none 0 0, []⟩ ⟨by simp, by simp, rfl⟩ Qy (by exact List.Sublist.refl _) ?_
  conv => whnf
  rintro ⟨k, v, acc⟩ ⟨i1, i2, i3⟩
  simp only at i1 i2 i3
  dsimp only
  have hlc : (acc.map spav).length = acc.length := by simp
  by_cases hk : k < S.length
  · rw [drop_consM hk, List.foldl_cons] at i3
    have cp := r4Proper_ok (S.getD k default)
    cases hp : prp (S.getD k default) with
    | false =>
      rw [hp] at cp
      rw [show nst acc (S.getD k default) = acc by unfold nst; rw [hp]; rfl] at i3
      repeat' ((conv => whnf) <;> (first | refine zM ?_ | refine zW ?_ | intro _ | exact zF | refine Br.tt ?_ | refine Br.ff ?_ | (refine Br.mk (fun h => ?_) (fun h => ?_) <;> (try simp only [sh] at h) <;> try first | (exfalso; omega) | exact absurd trivial h | (simp at h; done)) | refine zA ?_ | refine zN ?_ | refine zO ?_ | refine zP ?_ | refine zB ?_ | refine zQ ?_ | refine Quo.t Qw ?_ | refine zL ent45 cp ?_ | refine zG ent45 (fun h => cp) ?_ | refine lB ?_ | refine lBA ?_ | refine zK ?_ | refine s1 ?_ | refine sA ?_ | refine zC ?_ | fail))
      (conv => whnf); (refine Nxt.of (⟨k + 1, v, acc⟩) [3, 5, 6, 9, 10, 11, 12, 13, 14, 15, 16, 17, 18, 19, 20, 21, 22, 23, 24, 25, 26, 27, 28, 29, 30, 31, 32, 33, 34, 35, 36, 37, 38, 39, 40, 41, 42, 43, 44, 45, 46, 47, 48, 49, 50, 51, 52, 53, 54, 55, 56, 57, 58, 59, 60, 61, 62] Qr Qr Qr ?_ ?_ Qy Qs <;> (try dsimp only) <;> (try omega))
      exact ⟨by omega, by omega, i3⟩
    | true =>
      rw [hp] at cp
      by_cases hne : acc = []
      · subst hne
        rw [show nst [] (S.getD k default) = [S.getD k default] by unfold nst; rw [if_pos hp]; rfl] at i3
        repeat' ((conv => whnf) <;> (first | refine lM0 (T := tab) ?_ | refine lM (T := tab) ?_ | refine iR (T := tab) ?_ | refine nR (T := tab) ?_ | refine zM ?_ | refine zW ?_ | intro _ | exact zF | refine Br.tt ?_ | refine Br.ff ?_ | (refine Br.mk (fun h => ?_) (fun h => ?_) <;> (try simp only [sh] at h) <;> try first | (exfalso; omega) | exact absurd trivial h | (simp at h; done)) | refine zA ?_ | refine zN ?_ | refine zO ?_ | refine zP ?_ | refine zB ?_ | refine zQ ?_ | refine Quo.t Qw ?_ | refine zL ent45 cp ?_ | refine zG ent45 (fun h => cp) ?_ | refine lB ?_ | refine lBA ?_ | refine zK ?_ | refine s1 ?_ | refine sA ?_ | refine pS ?_ | refine LK.gr (Gr.bslV rfl rfl rfl rfl) ?_ | refine Ask.of (Gr.bslV rfl rfl rfl rfl) ?_ | refine Kx.nil ?_ | refine Kx.stp rfl rfl Qs ?_ | refine kA ?_ | refine kS ?_ | (refine Kx.frzR 0 rfl ?_ <;> refine kF ?_) | refine kP ?_ | refine k1 ?_ | refine kB ?_ | refine kL ?_ | refine zC ?_ | refine zD ?_ | fail))
        rename_i A q cp
        (conv => whnf); (refine Nxt.of (⟨k + 1, Value.slice A q cp, [S.getD k default]⟩) [3, 5, 6, 9, 10, 11, 12, 13, 14, 15, 16, 17, 18, 19, 20, 21, 22, 23, 24, 25, 26, 27, 28, 29, 30, 31, 32, 33, 34, 35, 36, 37, 38, 39, 40, 41, 42, 43, 44, 45, 46, 47, 48, 49, 50, 51, 52, 53, 54, 55, 56, 57, 58, 59, 60, 61, 62] Qr Qr Qr ?_ ?_ Qy Qs <;> (try dsimp only) <;> (try omega))
        exact ⟨by omega, by simp, i3⟩
      · have hpos : 0 < acc.length := List.length_pos_iff.2 hne
        have hll := last_get hne
        by_cases hc : (S.getD k default).1 ≤ (acc.getD (acc.length - 1) default).2
        · rw [show nst acc (S.getD k default) = acc.set (acc.length - 1) ((acc.getD (acc.length - 1) default).1, max (acc.getD (acc.length - 1) default).2 (S.getD k default).2) by unfold nst; rw [if_pos hp, hll]; exact if_pos hc] at i3
          have ea : (((acc.map spav).length : Int) - 1).toNat = acc.length - 1 := by omega
          repeat' ((conv => whnf) <;> (first | refine LK.stRM (a := (((acc.map spav).length : Int) - 1).toNat) (j := 1) 0 rfl rfl rfl rfl rfl (Nat.zero_le _) (by omega) rfl rfl ?_ | refine lM0 (T := tab) ?_ | refine lM (T := tab) ?_ | refine iR (T := tab) ?_ | refine nR (T := tab) ?_ | refine zM ?_ | refine zW ?_ | intro _ | exact zF | refine Br.tt ?_ | refine Br.ff ?_ | (refine Br.mk (fun h => ?_) (fun h => ?_) <;> (try simp only [sh] at h) <;> try first | (exfalso; omega) | exact absurd trivial h | (simp at h; done)) | refine zA ?_ | refine zN ?_ | refine zO ?_ | refine zP ?_ | refine zB ?_ | refine zQ ?_ | refine Quo.t Qw ?_ | refine zL ent45 cp ?_ | refine zG ent45 (fun h => cp) ?_ | refine lB ?_ | refine lBA ?_ | refine zK ?_ | refine s1 ?_ | refine sA ?_ | refine Kx.nil ?_ | refine Kx.stp rfl rfl Qs ?_ | refine kA ?_ | (refine Kx.frzR 0 rfl ?_ <;> refine kF ?_) | refine kP ?_ | refine k1 ?_ | refine kB ?_ | refine kL ?_ | refine zC ?_ | fail))
          (conv => whnf); (refine Nxt.of (⟨k + 1, v, acc.set (acc.length - 1) ((acc.getD (acc.length - 1) default).1, max (acc.getD (acc.length - 1) default).2 (S.getD k default).2)⟩) [3, 5, 6, 9, 10, 11, 12, 13, 14, 15, 16, 17, 18, 19, 20, 21, 22, 23, 24, 25, 26, 27, 28, 29, 30, 31, 32, 33, 34, 35, 36, 37, 38, 39, 40, 41, 42, 43, 44, 45, 46, 47, 48, 49, 50, 51, 52, 53, 54, 55, 56, 57, 58, 59, 60, 61, 62] Qr Qr Qr ?_ ?_ Qy ?_ <;> (try dsimp only) <;> (try omega))
          · exact ⟨by omega, by rw [List.length_set]; omega, i3⟩
          · rw [List.map_set, ← ea]
            exact Qs
        · rw [show nst acc (S.getD k default) = acc ++ [S.getD k default] by unfold nst; rw [if_pos hp, hll]; exact if_neg hc] at i3
          repeat' ((conv => whnf) <;> (first | refine lM0 (T := tab) ?_ | refine lM (T := tab) ?_ | refine iR (T := tab) ?_ | refine nR (T := tab) ?_ | refine zM ?_ | refine zW ?_ | intro _ | exact zF | refine Br.tt ?_ | refine Br.ff ?_ | (refine Br.mk (fun h => ?_) (fun h => ?_) <;> (try simp only [sh] at h) <;> try first | (exfalso; omega) | exact absurd trivial h | (simp at h; done)) | refine zA ?_ | refine zN ?_ | refine zO ?_ | refine zP ?_ | refine zB ?_ | refine zQ ?_ | refine Quo.t Qw ?_ | refine zL ent45 cp ?_ | refine zG ent45 (fun h => cp) ?_ | refine lB ?_ | refine lBA ?_ | refine zK ?_ | refine s1 ?_ | refine sA ?_ | refine pS ?_ | refine LK.gr (Gr.bslV rfl rfl rfl rfl) ?_ | refine Ask.of (Gr.bslV rfl rfl rfl rfl) ?_ | refine Kx.nil ?_ | refine Kx.stp rfl rfl Qs ?_ | refine kA ?_ | refine kS ?_ | (refine Kx.frzR 0 rfl ?_ <;> refine kF ?_) | refine kP ?_ | refine k1 ?_ | refine kB ?_ | refine kL ?_ | refine zC ?_ | refine zD ?_ | fail))
          rename_i A q cp
          (conv => whnf); (refine Nxt.of (⟨k + 1, Value.slice A q cp, acc ++ [S.getD k default]⟩) [3, 5, 6, 9, 10, 11, 12, 13, 14, 15, 16, 17, 18, 19, 20, 21, 22, 23, 24, 25, 26, 27, 28, 29, 30, 31, 32, 33, 34, 35, 36, 37, 38, 39, 40, 41, 42, 43, 44, 45, 46, 47, 48, 49, 50, 51, 52, 53, 54, 55, 56, 57, 58, 59, 60, 61, 62] Qr Qr Qr ?_ ?_ Qy ?_ <;> (try dsimp only) <;> (try omega))
          · exact ⟨by omega, by simp only [List.length_append, List.length_singleton]; omega, i3⟩
          · rw [List.map_append]
            exact Qs
  · have ek : k = S.length := by omega
    subst ek
    rw [List.drop_length] at i3
    rw [i3]
    repeat' ((conv => whnf) <;> (first | refine zM ?_ | refine zW ?_ | intro _ | exact zF | refine Br.tt ?_ | refine Br.ff ?_ | (refine Br.mk (fun h => ?_) (fun h => ?_) <;> (try simp only [sh] at h) <;> try first | (exfalso; omega) | exact absurd trivial h | (simp at h; done)) | refine zA ?_ | refine zN ?_ | refine zO ?_ | refine zP ?_ | refine zB ?_ | refine zQ ?_ | refine Quo.t Qw ?_ | refine lB ?_ | refine lBA ?_ | refine zK ?_ | refine s1 ?_ | refine sA ?_ | refine zC ?_ | fail))
    conv => whnf
    refine Fin.frzR 0 rfl ?_
    exact Fin.seeP (Sb.row 0 rfl)
end Go.Proofs.Ytnekeokgognegaa
