/-
  Walks: the references of chapters 3, 4 and 17: windows, normal form, rest, night.
  Conditions: those of each theorem.
-/
import Derived.Test.YtjfnkmlnbaianaaGreatRF2
namespace Go.Proofs.YtjfnkmlnbaianaaGreat
open Go.E2 Go.Wage
theorem e3In_ok (w : Sp) (m : Int) : FnA Tryz.prog 151 [spav w, I m] (B (inW w m)) := by
 refine fn_run (T := tab) Tryz.func151 rfl Tryz.ntmps151 rfl Tryz.results151 (fun _ => ?_)
 repeat' ((conv => whnf) <;> (first | refine zM ?_ | refine zW ?_ | intro _ | exact zF | refine Fin.pure ?_ | refine Br.tt ?_ | refine Br.ff ?_ | (refine Br.mk (fun h => ?_) (fun h => ?_) <;> (try simp only [sh] at h) <;> try first | (exfalso; omega) | exact absurd trivial h | (simp at h; done)) | refine zA ?_ | refine zN ?_ | refine zO ?_ | refine zP ?_ | refine zB ?_ | refine zQ ?_ | refine Quo.t Qw ?_ | refine lB ?_ | refine lBA ?_ | refine zK ?_ | refine s1 ?_ | refine sA ?_ | refine zC ?_ | fail))
 ·unfold inW
  rw [if_pos (by omega)]
 ·unfold inW
  rw [if_neg (by omega)]
set_option maxHeartbeats 4000000 in
theorem e3Window_ok (z : Zo) (a b : Int) (w : Sp) (hz : validZ z = true) (hab : 0 ≤ a ∧ a ≤ b ∧ b ≤ 52596000 ∧ b - a ≤ 44640) (hw : 0 ≤ w.1 ∧ w.1 ≤ 1440 ∧ 0 ≤ w.2 ∧ w.2 ≤ 1440) :
  FnA Tryz.prog 139 [.agg (zcs z), I a, I b, spav w] (.tup [I (winZ w (strZ z.base z.chs a b)), I 0]) := by
 obtain ⟨ho, h64⟩ := okOff_of hz
 have c1 := e3Valid_ok z (by omega)
 have c2 := e3Stretch_ok a b
 have c0 := e3Frame_ok w
 have hwi : (inB w.1 1440 && inB w.2 1440) = true := by
  unfold inB
  simp only [Bool.and_eq_true, decide_eq_true_eq]
  omega
 rw [hwi] at c0
 rw [hz] at c1
 rw [winZ_cnt z w hab.2.1]
 refine fn_run (T := tab) Tryz.func139 rfl Tryz.ntmps139 rfl Tryz.results139 (fun _ => ?_)
 repeat' ((conv => whnf) <;> (first | refine zM ?_ | refine zW ?_ | intro _ | exact zF | refine Br.tt ?_ | refine Br.ff ?_ | (refine Br.mk (fun h => ?_) (fun h => ?_) <;> (try simp only [sh] at h) <;> try first | (exfalso; omega) | exact absurd trivial h | (simp at h; done)) | refine zA ?_ | refine zN ?_ | refine zO ?_ | refine zP ?_ | refine zB ?_ | refine zQ ?_ | refine Quo.t Qw ?_ | refine zL ent44 c1 ?_ | refine zG ent44 (fun h => c1) ?_ | refine zL ent86 c2 ?_ | refine zG ent86 (fun h => c2) ?_ | refine zL ent66 c0 ?_ | refine zG ent66 (fun h => c0) ?_ | refine lB ?_ | refine lBA ?_ | refine zK ?_ | refine s1 ?_ | refine sA ?_ | refine zC ?_ | fail))
 (conv => whnf); refine CK.loop [10, 11, 12, 13, 33, 34, 35, 36, 37, 38, 39, 40, 41, 42, 43, 44, 45, 46, 47, 48] (σ := Int × Int) (fun s => a ≤ s.1 ∧ s.1 ≤ b ∧ s.2 = cnt (fun t => inW w (locM z t)) a s.1) (fun ⟨t, n⟩ => [(11, I t), (10, I n)]) (fun _ => _) (fun s => (b - s.1).toNat) (a, 0) ⟨Int.le_refl _, hab.2.1, (cnt_self _ _).symm⟩ Qy (List.Sublist.refl _) ?_
 conv => whnf
 rintro ⟨t, n⟩ ⟨i1, i2, i3⟩
 simp only at i1 i2 i3
 by_cases ht : t < b
 ·have c3 := e3local_ok z t (by omega) ho (by omega)
  have c4 := e3In_ok w (locM z t)
  have h2 := cnt_bd (fun t => inW w (locM z t)) i1
  have h3 := cnt_next (fun t => inW w (locM z t)) i1
  repeat' ((conv => whnf) <;> (first | refine zM ?_ | refine zW ?_ | intro _ | exact zF | refine Br.tt ?_ | refine Br.ff ?_ | (refine Br.mk (fun h => ?_) (fun h => ?_) <;> (try simp only [sh] at h) <;> try first | (exfalso; omega) | exact absurd trivial h | (simp at h; done)) | refine zA ?_ | refine zN ?_ | refine zO ?_ | refine zP ?_ | refine zB ?_ | refine zQ ?_ | refine Quo.t Qw ?_ | refine zL ent87 c3 ?_ | refine zG ent87 (fun h => c3) ?_ | refine zL ent151 c4 ?_ | refine zG ent151 (fun h => c4) ?_ | refine lB ?_ | refine lBA ?_ | refine zK ?_ | refine s1 ?_ | refine sA ?_ | refine zC ?_ | fail))
  ·(conv => whnf); (refine Nxt.of ((t + 1, n + 1)) [10, 11, 12, 13, 33, 34, 35, 36, 37, 38, 39, 40, 41, 42, 43, 44, 45, 46, 47, 48] Qr Qr Qr ?_ ?_ Qy Qs <;> (try dsimp only) <;> (try omega))
   rw [if_pos h] at h3
   exact ⟨by omega, by omega, by omega⟩
  ·(conv => whnf); (refine Nxt.of ((t + 1, n)) [10, 11, 12, 13, 33, 34, 35, 36, 37, 38, 39, 40, 41, 42, 43, 44, 45, 46, 47, 48] Qr Qr Qr ?_ ?_ Qy Qs <;> (try dsimp only) <;> (try omega))
   rw [if_neg (by simpa using h)] at h3
   exact ⟨by omega, by omega, by omega⟩
 ·obtain rfl : t = b := by omega
  repeat' ((conv => whnf) <;> (first | refine zM ?_ | refine zW ?_ | intro _ | exact zF | refine Br.tt ?_ | refine Br.ff ?_ | (refine Br.mk (fun h => ?_) (fun h => ?_) <;> (try simp only [sh] at h) <;> try first | (exfalso; omega) | exact absurd trivial h | (simp at h; done)) | refine zA ?_ | refine zN ?_ | refine zO ?_ | refine zP ?_ | refine zB ?_ | refine zQ ?_ | refine Quo.t Qw ?_ | refine lB ?_ | refine lBA ?_ | refine zK ?_ | refine s1 ?_ | refine sA ?_ | refine zC ?_ | fail))
  conv => whnf
  refine Fin.pure ?_
  rw [i3]
set_option maxHeartbeats 4000000 in
theorem e4merge_ok (a b : List Sp) (hab : a.length + b.length ≤ 1000000) (ho : (a ++ b).Pairwise fun s t => s.1 ≤ t.1) : FnA Tryz.prog 163 [.sl 2 (a.map spav), .sl 2 (b.map spav)] (.sl 2 ((a ++ b).map spav)) := by
 have hla : (a.map spav).length = a.length := by simp
 have hlb : (b.map spav).length = b.length := by simp
 refine fn_run (T := tab) Tryz.func163 rfl Tryz.ntmps163 rfl Tryz.results163 (fun _ => ?_)
 repeat' ((conv => whnf) <;> (first | refine zM ?_ | refine zW ?_ | intro _ | exact zF | refine Br.tt ?_ | refine Br.ff ?_ | (refine Br.mk (fun h => ?_) (fun h => ?_) <;> (try simp only [sh] at h) <;> try first | (exfalso; omega) | exact absurd trivial h | (simp at h; done)) | refine zA ?_ | refine zN ?_ | refine zO ?_ | refine zP ?_ | refine zB ?_ | refine zQ ?_ | refine Quo.t Qw ?_ | refine lB ?_ | refine lBA ?_ | refine zK ?_ | refine s1 ?_ | refine sA ?_ | refine zC ?_ | fail))
 refine CK.nilrow 28 2 ?_
 (conv => whnf); refine CK.loopK [5, 6, 7, 8, 9, 10, 11, 12, 13, 14, 15, 16, 17, 18, 19, 20, 21, 22, 23, 24, 25, 26, 27, 28, 29, 30, 31, 32, 33, 34, 35, 36, 37, 38, 39, 40, 41, 42, 43, 44, 45, 46, 47, 48, 49, 50, 51, 52, 53, 54, 55, 56, 57, 58] (σ := Nat × Nat × Value) (fun s => s.1 ≤ a.length ∧ s.2.1 ≤ b.length ∧ (s.1 < a.length → s.2.1 = 0)) (fun ⟨i, k, v⟩ => [(6, I i), (7, I k), (5, .v v)]) (fun ⟨i, k, v⟩ => [.row v 28 2 0 false ((a.take i ++ b.take k).map spav)]) _ (fun s => a.length - s.1 + (b.length - s.2.1)) (0, 0, .slice none 0 0) ⟨Nat.zero_le _, Nat.zero_le _, fun _ => rfl⟩ Qy Qs ?_
 conv => whnf
 rintro ⟨i, k, v⟩ ⟨i1, i2, i3⟩
 simp only at i1 i2 i3
 have hla2 : ((a.take i ++ b.take k).map spav).length ≤ 1000000 := by simp; omega
 by_cases hi : i < a.length
 ·obtain rfl := i3 hi
  have hset : (a.take i ++ b.take 0).map spav ++ [spav (a.getD i default)] = (a.take (i + 1) ++ b.take 0).map spav := by
   rw [List.take_succ_eq_append_getElem hi, ← getD_at hi]
   simp
  have hle : ∀ hb : 0 < b.length, (a.getD i default).1 ≤ (b.getD 0 default).1 := fun hb => by
   rw [getD_at hi, getD_at hb]
   exact (List.pairwise_append.1 ho).2.2 _ (List.getElem_mem hi) _ (List.getElem_mem hb)
  by_cases hb : 0 < b.length
  ·have hle := hle hb
   repeat' ((conv => whnf) <;> (first | refine zM ?_ | refine zW ?_ | intro _ | exact zF | refine Br.tt ?_ | refine Br.ff ?_ | (refine Br.mk (fun h => ?_) (fun h => ?_) <;> (try simp only [sh] at h) <;> try first | (exfalso; omega) | exact absurd trivial h | (simp at h; done)) | refine zA ?_ | refine zN ?_ | refine zO ?_ | refine zP ?_ | refine zB ?_ | refine zQ ?_ | refine Quo.t Qw ?_ | refine lB ?_ | refine lBA ?_ | refine zK ?_ | refine s1 ?_ | refine sA ?_ | refine pS ?_ | refine LK.gr (Gr.bslV rfl rfl rfl rfl) ?_ | refine Ask.of (Gr.bslV rfl rfl rfl rfl) ?_ | refine zC ?_ | refine zD ?_ | fail))
   rename_i A B' C
   (conv => whnf); (refine Nxt.of ((i + 1, 0, Value.slice A B' C)) [5, 6, 7, 8, 9, 10, 11, 12, 13, 14, 15, 16, 17, 18, 19, 20, 21, 22, 23, 24, 25, 26, 27, 28, 29, 30, 31, 32, 33, 34, 35, 36, 37, 38, 39, 40, 41, 42, 43, 44, 45, 46, 47, 48, 49, 50, 51, 52, 53, 54, 55, 56, 57, 58] Qr Qr Qr ?_ ?_ Qy ?_ <;> (try dsimp only) <;> (try omega))
   rw [← hset]
   exact Qs
  ·repeat' ((conv => whnf) <;> (first | refine zM ?_ | refine zW ?_ | intro _ | exact zF | refine Br.tt ?_ | refine Br.ff ?_ | (refine Br.mk (fun h => ?_) (fun h => ?_) <;> (try simp only [sh] at h) <;> try first | (exfalso; omega) | exact absurd trivial h | (simp at h; done)) | refine zA ?_ | refine zN ?_ | refine zO ?_ | refine zP ?_ | refine zB ?_ | refine zQ ?_ | refine Quo.t Qw ?_ | refine lB ?_ | refine lBA ?_ | refine zK ?_ | refine s1 ?_ | refine sA ?_ | refine pS ?_ | refine LK.gr (Gr.bslV rfl rfl rfl rfl) ?_ | refine Ask.of (Gr.bslV rfl rfl rfl rfl) ?_ | refine zC ?_ | refine zD ?_ | fail))
   rename_i A B' C
   (conv => whnf); (refine Nxt.of ((i + 1, 0, Value.slice A B' C)) [5, 6, 7, 8, 9, 10, 11, 12, 13, 14, 15, 16, 17, 18, 19, 20, 21, 22, 23, 24, 25, 26, 27, 28, 29, 30, 31, 32, 33, 34, 35, 36, 37, 38, 39, 40, 41, 42, 43, 44, 45, 46, 47, 48, 49, 50, 51, 52, 53, 54, 55, 56, 57, 58] Qr Qr Qr ?_ ?_ Qy ?_ <;> (try dsimp only) <;> (try omega))
   rw [← hset]
   exact Qs
 ·by_cases hk : k < b.length
  ·have hset : (a.take i ++ b.take k).map spav ++ [spav (b.getD k default)] = (a.take i ++ b.take (k + 1)).map spav := by
    rw [List.take_succ_eq_append_getElem hk, ← getD_at hk]
    simp
   repeat' ((conv => whnf) <;> (first | refine zM ?_ | refine zW ?_ | intro _ | exact zF | refine Br.tt ?_ | refine Br.ff ?_ | (refine Br.mk (fun h => ?_) (fun h => ?_) <;> (try simp only [sh] at h) <;> try first | (exfalso; omega) | exact absurd trivial h | (simp at h; done)) | refine zA ?_ | refine zN ?_ | refine zO ?_ | refine zP ?_ | refine zB ?_ | refine zQ ?_ | refine Quo.t Qw ?_ | refine lB ?_ | refine lBA ?_ | refine zK ?_ | refine s1 ?_ | refine sA ?_ | refine pS ?_ | refine LK.gr (Gr.bslV rfl rfl rfl rfl) ?_ | refine Ask.of (Gr.bslV rfl rfl rfl rfl) ?_ | refine zC ?_ | refine zD ?_ | fail))
   rename_i A B' C
   (conv => whnf); (refine Nxt.of ((i, k + 1, Value.slice A B' C)) [5, 6, 7, 8, 9, 10, 11, 12, 13, 14, 15, 16, 17, 18, 19, 20, 21, 22, 23, 24, 25, 26, 27, 28, 29, 30, 31, 32, 33, 34, 35, 36, 37, 38, 39, 40, 41, 42, 43, 44, 45, 46, 47, 48, 49, 50, 51, 52, 53, 54, 55, 56, 57, 58] Qr Qr Qr ?_ ?_ Qy ?_ <;> (try dsimp only) <;> (try omega))
   rw [← hset]
   exact Qs
  ·have e1 : a.take i ++ b.take k = a ++ b := by rw [List.take_of_length_le (by omega), List.take_of_length_le (by omega)]
   dsimp only
   rw [e1]
   repeat' ((conv => whnf) <;> (first | refine zM ?_ | refine zW ?_ | intro _ | exact zF | refine Br.tt ?_ | refine Br.ff ?_ | (refine Br.mk (fun h => ?_) (fun h => ?_) <;> (try simp only [sh] at h) <;> try first | (exfalso; omega) | exact absurd trivial h | (simp at h; done)) | refine zA ?_ | refine zN ?_ | refine zO ?_ | refine zP ?_ | refine zB ?_ | refine zQ ?_ | refine Quo.t Qw ?_ | refine lB ?_ | refine lBA ?_ | refine zK ?_ | refine s1 ?_ | refine sA ?_ | refine zC ?_ | fail))
   conv => whnf
   refine Fin.frzR 0 rfl ?_
   exact Fin.seeP Qz
theorem e4sorted_ok : ∀ (n : Nat) (l : List Sp), l.length ≤ n → l.length ≤ 1000000 → (l.Pairwise fun s t => s.1 ≤ t.1) → FnA Tryz.prog 150 [.sl 2 (l.map spav)] (.sl 2 (l.map spav))
 | 0, l, hn, _, _ => by
  have hll : (l.map spav).length = l.length := by simp
  refine fn_run (T := tab) Tryz.func150 rfl Tryz.ntmps150 rfl Tryz.results150 (fun _ => ?_)
  repeat' ((conv => whnf) <;> (first | refine zM ?_ | refine zW ?_ | intro _ | exact zF | refine Fin.pure ?_ | refine Br.tt ?_ | refine Br.ff ?_ | (refine Br.mk (fun h => ?_) (fun h => ?_) <;> (try simp only [sh] at h) <;> try first | (exfalso; omega) | exact absurd trivial h | (simp at h; done)) | refine zA ?_ | refine zN ?_ | refine zO ?_ | refine zP ?_ | refine zB ?_ | refine zQ ?_ | refine Quo.t Qw ?_ | refine lB ?_ | refine lBA ?_ | refine zK ?_ | refine s1 ?_ | refine sA ?_ | refine zC ?_ | fail))
 | n + 1, l, hn, hl, ho => by
  have hll : (l.map spav).length = l.length := by simp
  by_cases h2 : l.length < 2
  ·refine fn_run (T := tab) Tryz.func150 rfl Tryz.ntmps150 rfl Tryz.results150 (fun _ => ?_)
   repeat' ((conv => whnf) <;> (first | refine zM ?_ | refine zW ?_ | intro _ | exact zF | refine Fin.pure ?_ | refine Br.tt ?_ | refine Br.ff ?_ | (refine Br.mk (fun h => ?_) (fun h => ?_) <;> (try simp only [sh] at h) <;> try first | (exfalso; omega) | exact absurd trivial h | (simp at h; done)) | refine zA ?_ | refine zN ?_ | refine zO ?_ | refine zP ?_ | refine zB ?_ | refine zQ ?_ | refine Quo.t Qw ?_ | refine lB ?_ | refine lBA ?_ | refine zK ?_ | refine s1 ?_ | refine sA ?_ | refine zC ?_ | fail))
  ·have h3 : (((l.map spav).length : Int) / 2).toNat = l.length / 2 := by rw [hll]; omega
   have c1 := e4sorted_ok n (l.take (l.length / 2)) (by simp; omega) (by simp; omega) (ho.sublist (List.take_sublist _ _))
   have c2 := e4sorted_ok n (l.drop (l.length / 2)) (by simp; omega) (by simp; omega) (ho.sublist (List.drop_sublist _ _))
   have c3 := e4merge_ok (l.take (l.length / 2)) (l.drop (l.length / 2)) (by simp; omega) (by rw [List.take_append_drop]; exact ho)
   rw [List.take_append_drop] at c3
   rw [List.map_take, ← h3] at c1
   rw [List.map_drop, ← h3] at c2
   rw [List.map_take, List.map_drop, ← h3] at c3
   refine fn_run (T := tab) Tryz.func150 rfl Tryz.ntmps150 rfl Tryz.results150 (fun _ => ?_)
   repeat' ((conv => whnf) <;> (first | refine zM ?_ | refine zW ?_ | intro _ | exact zF | refine Br.tt ?_ | refine Br.ff ?_ | (refine Br.mk (fun h => ?_) (fun h => ?_) <;> (try simp only [sh] at h) <;> try first | (exfalso; omega) | exact absurd trivial h | (simp at h; done)) | refine zA ?_ | refine zN ?_ | refine zO ?_ | refine zP ?_ | refine zB ?_ | refine zQ ?_ | refine Quo.t Qw ?_ | refine zL ent150 c1 ?_ | refine zG ent150 (fun h => c1) ?_ | refine zL ent150 c2 ?_ | refine zG ent150 (fun h => c2) ?_ | refine zL ent163 c3 ?_ | refine zG ent163 (fun h => c3) ?_ | refine lB ?_ | refine lBA ?_ | refine zK ?_ | refine s1 ?_ | refine sA ?_ | refine zC ?_ | fail))
   all_goals skip
theorem valid_asc {l : List Sp} (h : validS l = true) : l.Pairwise fun s t => s.1 ≤ t.1 := by
 rw [List.pairwise_iff_getElem]
 intro i j hi hj hij
 have h1 := validS_iff.1 h
 have h2 : ∀ k, i ≤ k → k < l.length → (l.getD i default).1 ≤ (l.getD k default).1 := fun k hk hkl => by
  induction k with
  | zero => rw [show i = 0 by omega]; exact Int.le_refl _
  | succ k ih =>
   by_cases e : i = k + 1
   ·rw [e]; exact Int.le_refl _
   ·have a := ih (by omega) (by omega)
    have b := (h1 (k + 1) hkl).2.resolve_left (by omega)
    have c := (h1 k (by omega)).1
    unfold prp at c
    simp only [Bool.and_eq_true, decide_eq_true_eq, Nat.add_sub_cancel] at b c
    omega
 have := h2 j (by omega) hj
 rwa [getD_at hi, getD_at hj] at this
theorem e4Normal_ok (l : List Sp) (hl : l.length ≤ 1000000) (hv : validS l = true) : FnA Tryz.prog 138 [.sl 2 (l.map spav)] (.sl 2 (l.map spav)) := by
 have hll : (l.map spav).length = l.length := by simp
 have c1 := e4sorted_ok l.length l (Nat.le_refl _) hl (valid_asc hv)
 refine fn_run (T := tab) Tryz.func138 rfl Tryz.ntmps138 rfl Tryz.results138 (fun _ => ?_)
 repeat' ((conv => whnf) <;> (first | refine zM ?_ | refine zW ?_ | intro _ | exact zF | refine Br.tt ?_ | refine Br.ff ?_ | (refine Br.mk (fun h => ?_) (fun h => ?_) <;> (try simp only [sh] at h) <;> try first | (exfalso; omega) | exact absurd trivial h | (simp at h; done)) | refine zA ?_ | refine zN ?_ | refine zO ?_ | refine zP ?_ | refine zB ?_ | refine zQ ?_ | refine Quo.t Qw ?_ | refine zL ent150 c1 ?_ | refine zG ent150 (fun h => c1) ?_ | refine lB ?_ | refine lBA ?_ | refine zK ?_ | refine s1 ?_ | refine sA ?_ | refine zC ?_ | fail))
 refine CK.nilrow 28 2 ?_
 (conv => whnf); refine CK.loopK [3, 5, 6, 9, 10, 11, 12, 13, 14, 15, 16, 17, 18, 19, 20, 21, 22, 23, 24, 25, 26, 27, 28, 29, 30, 31, 32, 33, 34, 35, 36, 37, 38, 39, 40, 41, 42, 43, 44, 45, 46, 47, 48, 49, 50, 51, 52, 53, 54, 55, 56, 57, 58, 59, 60, 61, 62] (σ := Nat × Value) (fun s => s.1 ≤ l.length) (fun ⟨i, v⟩ => [(5, I i), (3, .v v)]) (fun ⟨i, v⟩ => [.row v 28 2 0 false ((l.take i).map spav)]) _ (fun s => l.length - s.1) (0, .slice none 0 0) (Nat.zero_le _) Qy Qs ?_
 conv => whnf
 rintro ⟨i, v⟩ i1
 simp only at i1
 have hlt : ((l.take i).map spav).length = i := by simp; omega
 have hlt2 : (l.take i).length = i := by simp; omega
 by_cases hi : i < l.length
 ·have hs := validS_iff.1 hv i hi
  have c2 := e4Proper_ok (l.getD i default)
  rw [hs.1] at c2
  have hset : (l.take i).map spav ++ [spav (l.getD i default)] = (l.take (i + 1)).map spav := by
   rw [List.take_succ_eq_append_getElem hi, ← getD_at hi]
   simp
  have hgap : 0 < i → ((l.take i).getD ((l.take i).length - 1) default).2 < (l.getD i default).1 := fun h0 => by
   have : i - 1 < (l.take i).length := by simp; omega
   have e : (l.take i).getD ((l.take i).length - 1) default = l.getD (i - 1) default := by
    rw [hlt2, getD_at this, getD_at (show i - 1 < l.length by omega)]
    simp
   rw [e]
   exact hs.2.resolve_left (by omega)
  repeat' ((conv => whnf) <;> (first | refine zM ?_ | refine zW ?_ | intro _ | exact zF | refine Br.tt ?_ | refine Br.ff ?_ | (refine Br.mk (fun h => ?_) (fun h => ?_) <;> (try simp only [sh] at h) <;> try first | (exfalso; omega) | exact absurd trivial h | (simp at h; done)) | refine zA ?_ | refine zN ?_ | refine zO ?_ | refine zP ?_ | refine zB ?_ | refine zQ ?_ | refine Quo.t Qw ?_ | refine zL ent90 c2 ?_ | refine zG ent90 (fun h => c2) ?_ | refine lB ?_ | refine lBA ?_ | refine lM ?_ | refine lM0 ?_ | refine lMA ?_ | refine sM ?_ | refine nR ?_ | refine iR ?_ | refine lR ?_ | refine lR0 ?_ | refine lRA ?_ | refine zK ?_ | refine s1 ?_ | refine sA ?_ | refine pS ?_ | refine LK.bsl rfl rfl rfl rfl ?_ | (refine LK.frzR 0 rfl ?_ <;> refine pF ?_) | refine pA ?_ | refine sR ?_ | refine LK.gr (Gr.bslV rfl rfl rfl rfl) ?_ | refine Ask.of (Gr.bslV rfl rfl rfl rfl) ?_ | refine zC ?_ | refine zD ?_ | fail))
  rename_i v1 v2
  (conv => whnf); (refine Nxt.of ((i + 1, v2)) [3, 5, 6, 9, 10, 11, 12, 13, 14, 15, 16, 17, 18, 19, 20, 21, 22, 23, 24, 25, 26, 27, 28, 29, 30, 31, 32, 33, 34, 35, 36, 37, 38, 39, 40, 41, 42, 43, 44, 45, 46, 47, 48, 49, 50, 51, 52, 53, 54, 55, 56, 57, 58, 59, 60, 61, 62] Qr Qr Qr ?_ ?_ Qy ?_ <;> (try dsimp only) <;> (try omega))
  rw [← hset]
  exact Qs
 ·dsimp only
  rw [List.take_of_length_le (by omega)] at hlt ⊢
  repeat' ((conv => whnf) <;> (first | refine zM ?_ | refine zW ?_ | intro _ | exact zF | refine Br.tt ?_ | refine Br.ff ?_ | (refine Br.mk (fun h => ?_) (fun h => ?_) <;> (try simp only [sh] at h) <;> try first | (exfalso; omega) | exact absurd trivial h | (simp at h; done)) | refine zA ?_ | refine zN ?_ | refine zO ?_ | refine zP ?_ | refine zB ?_ | refine zQ ?_ | refine Quo.t Qw ?_ | refine lB ?_ | refine lBA ?_ | refine zK ?_ | refine s1 ?_ | refine sA ?_ | refine zC ?_ | fail))
  conv => whnf
  refine Fin.frzR 0 rfl ?_
  exact Fin.seeP Qz
def ovS (s t : Sp) : Bool := prp t && prp s && decide (t.1 < s.2) && decide (s.1 < t.2)
theorem any_snoc {α : Type} [Inhabited α] {f : α → Bool} {l : List α} {i : Nat} (h : i < l.length) : (l.take (i + 1)).any f = ((l.take i).any f || f (l.getD i default)) := by
 rw [List.take_succ_eq_append_getElem h, List.any_append, ← getD_at h]
 simp
set_option maxHeartbeats 4000000 in
theorem e4Meet_ok (a : List Sp) (s : Sp) (ha : a.length ≤ 1000000) (hv : validS a = true) (hs : prp s = true) : FnE Tryz.prog 129 [.sl 2 (a.map spav), .sl 2 [spav s]] fun r E => E = [] ∧ ∃ m : List Sp, r = .sl 2 (m.map spav) ∧ decide (0 < m.length) = meetB a s := by
 have hla : (a.map spav).length = a.length := by simp
 have c1 := e4Normal_ok a ha hv
 have c2 := e4Normal_ok [s] (by simp) (validS_iff.2 fun i hi => by
  have : i = 0 := by simpa using hi
  subst this
  exact ⟨hs, .inl rfl⟩)
 refine fn_run (T := tab) Tryz.func129 rfl Tryz.ntmps129 rfl Tryz.results129 (fun _ => ?_)
 repeat' ((conv => whnf) <;> (first | refine zM ?_ | refine zW ?_ | intro _ | exact zF | refine Br.tt ?_ | refine Br.ff ?_ | (refine Br.mk (fun h => ?_) (fun h => ?_) <;> (try simp only [sh] at h) <;> try first | (exfalso; omega) | exact absurd trivial h | (simp at h; done)) | refine zA ?_ | refine zN ?_ | refine zO ?_ | refine zP ?_ | refine zB ?_ | refine zQ ?_ | refine Quo.t Qw ?_ | refine zL ent138 c1 ?_ | refine zG ent138 (fun h => c1) ?_ | refine zL ent138 c2 ?_ | refine zG ent138 (fun h => c2) ?_ | refine lB ?_ | refine lBA ?_ | refine zK ?_ | refine s1 ?_ | refine sA ?_ | refine zC ?_ | fail))
 refine CK.nilrow 28 2 ?_
 (conv => whnf); refine CK.loopK [7, 8, 9, 10, 15, 16, 17, 18, 19, 20, 21, 22, 23, 24, 25, 26, 27, 28, 29, 30, 31, 32, 33, 34, 35, 36, 37, 38, 39, 40, 41, 42, 43, 44, 45, 46, 47, 48, 49, 50, 51, 52, 53, 54, 55, 56, 57, 58, 59, 60, 61, 62, 63, 64, 65, 66, 67, 68, 69, 70, 71] (σ := Nat × Nat × Value × List Sp) (fun q => q.1 ≤ a.length ∧ q.2.1 ≤ 1 ∧ q.2.2.2.length ≤ q.1 + q.2.1 ∧ (q.2.1 = 1 → q.1 < a.length ∧ s.2 ≤ (a.getD q.1 default).2) ∧ decide (0 < q.2.2.2.length) = (a.take (q.1 + q.2.1)).any (ovS s)) (fun ⟨i, k, v, _⟩ => [(8, I i), (9, I k), (7, .v v)]) (fun ⟨_, _, v, m⟩ => [.row v 28 2 0 false (m.map spav)]) _ (fun q => a.length - q.1 + (1 - q.2.1)) (0, 0, .slice none 0 0, []) ⟨Nat.zero_le _, Nat.zero_le _, Nat.zero_le _, fun h => by simp at h, by simp⟩ Qy Qs ?_
 conv => whnf
 rintro ⟨i, k, v, m⟩ ⟨i1, i2, i3, i4, i5⟩
 simp only at i1 i2 i3 i4 i5
 have hlm : (m.map spav).length = m.length := by simp
 have hl1 : [s].length = 1 := rfl
 have hl2 : ([s].map spav).length = 1 := rfl
 have hme : meetB a s = a.any (ovS s) := rfl
 by_cases hi : i < a.length
 ·by_cases hk : k = 0
  ·subst hk
   have hp := (validS_iff.1 hv i hi).1
   have hst := any_snoc (f := ovS s) hi
   have hov : ovS s (a.getD i default) = (decide ((a.getD i default).1 < s.2) && decide (s.1 < (a.getD i default).2)) := by
    unfold ovS
    rw [hp, hs]
    rfl
   have hpl := prp_lt hp
   have hsl := prp_lt hs
   rw [Nat.add_zero] at i5
   rw [← i5, hov] at hst
   have hs0 : [s].getD 0 default = s := rfl
   repeat' ((conv => whnf) <;> (first | refine CK.anyK (id := 7) [0, 1, 2, 3, 4, 5, 6, 7, 8, 9, 10, 11, 12, 13, 14, 15, 16, 17, 18, 19, 20, 21, 22] [23, 24] _ (List.Sublist.refl _) Qk ?_ | refine zM ?_ | refine zW ?_ | intro _ | exact zF | refine Br.tt ?_ | refine Br.ff ?_ | (refine Br.mk (fun h => ?_) (fun h => ?_) <;> (try simp only [sh] at h) <;> try first | (exfalso; omega) | exact absurd trivial h | (simp at h; done)) | refine zA ?_ | refine zN ?_ | refine zO ?_ | refine zP ?_ | refine zB ?_ | refine zQ ?_ | refine Quo.t Qw ?_ | refine lB ?_ | refine lBA ?_ | refine zK ?_ | refine s1 ?_ | refine sA ?_ | refine pS ?_ | refine LK.gr (Gr.bslV rfl rfl rfl rfl) ?_ | refine Ask.of (Gr.bslV rfl rfl rfl rfl) ?_ | refine Kx.nil ?_ | refine Kx.stp rfl rfl Qs ?_ | refine kA ?_ | refine kS ?_ | (refine Kx.frzR 0 rfl ?_ <;> refine kF ?_) | refine kP ?_ | refine k1 ?_ | refine kB ?_ | refine kL ?_ | refine zC ?_ | refine zD ?_ | fail))
   ·rename_i h5 A B' C
    simp only [hs0] at h h5 ⊢
    rw [decide_eq_true (show (a.getD i default).1 < s.2 by omega), decide_eq_true (show s.1 < (a.getD i default).2 by omega)] at hst
    (conv => whnf); (refine Nxt.of ((i + 1, 0, Value.slice A B' C, m ++ [(max (a.getD i default).1 s.1, min (a.getD i default).2 s.2)])) [7, 8, 9, 10, 15, 16, 17, 18, 19, 20, 21, 22, 23, 24, 25, 26, 27, 28, 29, 30, 31, 32, 33, 34, 35, 36, 37, 38, 39, 40, 41, 42, 43, 44, 45, 46, 47, 48, 49, 50, 51, 52, 53, 54, 55, 56, 57, 58, 59, 60, 61, 62, 63, 64, 65, 66, 67, 68, 69, 70, 71] Qr Qr Qr ?_ ?_ Qy ?_ <;> (try dsimp only) <;> (try omega))
    ·refine ⟨by omega, by omega, by rw [List.length_append]; simp; omega, fun h => by omega, ?_⟩
     rw [Nat.add_zero, hst]; simp
    ·rw [List.map_append]; exact Qs
   ·rename_i h5 A B' C
    simp only [hs0] at h h5 ⊢
    rw [decide_eq_true (show (a.getD i default).1 < s.2 by omega), decide_eq_true (show s.1 < (a.getD i default).2 by omega)] at hst
    (conv => whnf); (refine Nxt.of ((i, 1, Value.slice A B' C, m ++ [(max (a.getD i default).1 s.1, min (a.getD i default).2 s.2)])) [7, 8, 9, 10, 15, 16, 17, 18, 19, 20, 21, 22, 23, 24, 25, 26, 27, 28, 29, 30, 31, 32, 33, 34, 35, 36, 37, 38, 39, 40, 41, 42, 43, 44, 45, 46, 47, 48, 49, 50, 51, 52, 53, 54, 55, 56, 57, 58, 59, 60, 61, 62, 63, 64, 65, 66, 67, 68, 69, 70, 71] Qr Qr Qr ?_ ?_ Qy ?_ <;> (try dsimp only) <;> (try omega))
    ·refine ⟨by omega, by omega, by rw [List.length_append]; simp; omega, fun _ => ⟨hi, by omega⟩, ?_⟩
     rw [hst]; simp
    ·rw [List.map_append]; exact Qs
   ·rename_i h5
    simp only [hs0] at h h5 ⊢
    have hb : (decide ((a.getD i default).1 < s.2) && decide (s.1 < (a.getD i default).2)) = false := by
     rw [← Bool.not_eq_true, Bool.and_eq_true_iff, decide_eq_true_eq, decide_eq_true_eq]
     omega
    rw [hb, Bool.or_false] at hst
    (conv => whnf); (refine Nxt.of ((i + 1, 0, v, m)) [7, 8, 9, 10, 15, 16, 17, 18, 19, 20, 21, 22, 23, 24, 25, 26, 27, 28, 29, 30, 31, 32, 33, 34, 35, 36, 37, 38, 39, 40, 41, 42, 43, 44, 45, 46, 47, 48, 49, 50, 51, 52, 53, 54, 55, 56, 57, 58, 59, 60, 61, 62, 63, 64, 65, 66, 67, 68, 69, 70, 71] Qr Qr Qr ?_ ?_ Qy Qs <;> (try dsimp only) <;> (try omega))
    exact ⟨by omega, by omega, by omega, fun h => by omega, hst.symm⟩
   ·rename_i h5
    simp only [hs0] at h h5 ⊢
    have hb : (decide ((a.getD i default).1 < s.2) && decide (s.1 < (a.getD i default).2)) = false := by
     rw [← Bool.not_eq_true, Bool.and_eq_true_iff, decide_eq_true_eq, decide_eq_true_eq]
     omega
    rw [hb, Bool.or_false] at hst
    (conv => whnf); (refine Nxt.of ((i, 1, v, m)) [7, 8, 9, 10, 15, 16, 17, 18, 19, 20, 21, 22, 23, 24, 25, 26, 27, 28, 29, 30, 31, 32, 33, 34, 35, 36, 37, 38, 39, 40, 41, 42, 43, 44, 45, 46, 47, 48, 49, 50, 51, 52, 53, 54, 55, 56, 57, 58, 59, 60, 61, 62, 63, 64, 65, 66, 67, 68, 69, 70, 71] Qr Qr Qr ?_ ?_ Qy Qs <;> (try dsimp only) <;> (try omega))
    exact ⟨by omega, by omega, by omega, fun _ => ⟨hi, by omega⟩, hst.symm⟩
  ·have : k = 1 := by omega
   subst this
   have h4 := i4 rfl
   have hall : (a.take (i + 1)).any (ovS s) = a.any (ovS s) := by
    conv => rhs; rw [← List.take_append_drop (i + 1) a]
    rw [List.any_append]
    have : (a.drop (i + 1)).any (ovS s) = false := by
     rw [List.any_eq_false]
     intro t ht
     obtain ⟨j, hj, rfl⟩ := List.mem_iff_getElem.1 ht
     rw [List.getElem_drop]
     rw [List.length_drop] at hj
     have h9 : ∀ d, i + 1 + d < a.length → (a.getD i default).2 < (a.getD (i + 1 + d) default).1 := fun d hd => by
      induction d with
      | zero => exact (validS_iff.1 hv (i + 1) hd).2.resolve_left (by omega)
      | succ d ih =>
       have a1 := ih (by omega)
       have a2 := (validS_iff.1 hv (i + 1 + (d + 1)) hd).2.resolve_left (by omega)
       have a3 := prp_lt (validS_iff.1 hv (i + 1 + d) (by omega)).1
       rw [show i + 1 + (d + 1) - 1 = i + 1 + d by omega] at a2
       omega
     have h10 := h9 j (by omega)
     rw [getD_at (show i + 1 + j < a.length by omega)] at h10
     unfold ovS
     simp only [Bool.and_eq_true, decide_eq_true_eq, not_and]
     omega
    rw [this, Bool.or_false]
   rw [hall] at i5
   repeat' ((conv => whnf) <;> (first | refine zM ?_ | refine zW ?_ | intro _ | exact zF | refine Br.tt ?_ | refine Br.ff ?_ | (refine Br.mk (fun h => ?_) (fun h => ?_) <;> (try simp only [sh] at h) <;> try first | (exfalso; omega) | exact absurd trivial h | (simp at h; done)) | refine zA ?_ | refine zN ?_ | refine zO ?_ | refine zP ?_ | refine zB ?_ | refine zQ ?_ | refine Quo.t Qw ?_ | refine lB ?_ | refine lBA ?_ | refine zK ?_ | refine s1 ?_ | refine sA ?_ | refine zC ?_ | fail))
   conv => whnf
   refine Fin.frzR 0 rfl ?_
   exact Fin.see (Sb.row 0 rfl) (.out _ (List.nil_sublist _) ⟨rfl, m, rfl, i5⟩)
 ·have : k = 0 := by
   apply Classical.byContradiction
   intro h
   exact hi (i4 (by omega)).1
  subst this
  rw [Nat.add_zero, List.take_of_length_le (by omega)] at i5
  repeat' ((conv => whnf) <;> (first | refine zM ?_ | refine zW ?_ | intro _ | exact zF | refine Br.tt ?_ | refine Br.ff ?_ | (refine Br.mk (fun h => ?_) (fun h => ?_) <;> (try simp only [sh] at h) <;> try first | (exfalso; omega) | exact absurd trivial h | (simp at h; done)) | refine zA ?_ | refine zN ?_ | refine zO ?_ | refine zP ?_ | refine zB ?_ | refine zQ ?_ | refine Quo.t Qw ?_ | refine lB ?_ | refine lBA ?_ | refine zK ?_ | refine s1 ?_ | refine sA ?_ | refine zC ?_ | fail))
  conv => whnf
  refine Fin.frzR 0 rfl ?_
  exact Fin.see (Sb.row 0 rfl) (.out _ (List.nil_sublist _) ⟨rfl, m, rfl, i5⟩)
theorem e7Rest_ok (a b : Du) : FnA Tryz.prog 111 [duav a, duav b] (I (restR a b)) := by
 have c1 := e7Valid_ok a
 have c2 := e7Valid_ok b
 by_cases hv : duB a = true ∧ duB b = true
 ·have h1 := duB_bd hv.1
  have h2 := duB_bd hv.2
  rw [hv.1] at c1
  rw [hv.2] at c2
  have e : restR a b = if b.frm < a.frm then max (a.frm - b.to_) (-1) else max (b.frm - a.to_) (-1) := by rw [restR, hv.1, hv.2]; rfl
  rw [e]
  refine fn_run (T := tab) Tryz.func111 rfl Tryz.ntmps111 rfl Tryz.results111 (fun _ => ?_)
  repeat' ((conv => whnf) <;> (first | refine zM ?_ | refine zW ?_ | intro _ | exact zF | refine Br.tt ?_ | refine Br.ff ?_ | (refine Br.mk (fun h => ?_) (fun h => ?_) <;> (try simp only [sh] at h) <;> try first | (exfalso; omega) | exact absurd trivial h | (simp at h; done)) | refine zA ?_ | refine zN ?_ | refine zO ?_ | refine zP ?_ | refine zB ?_ | refine zQ ?_ | refine Quo.t Qw ?_ | refine zL ent67 c1 ?_ | refine zG ent67 (fun h => c1) ?_ | refine zL ent67 c2 ?_ | refine zG ent67 (fun h => c2) ?_ | refine lB ?_ | refine lBA ?_ | refine zK ?_ | refine s1 ?_ | refine sA ?_ | refine zC ?_ | fail))
  all_goals (conv => whnf)
  all_goals (refine Fin.pure (congrArg I ?_); split <;> omega)
 ·have e : restR a b = -1 := by
   rw [restR, if_neg]
   simpa using hv
  refine fn_run (T := tab) Tryz.func111 rfl Tryz.ntmps111 rfl Tryz.results111 (fun _ => ?_)
  repeat' ((conv => whnf) <;> (first | refine zM ?_ | refine zW ?_ | intro _ | exact zF | refine Br.tt ?_ | refine Br.ff ?_ | (refine Br.mk (fun h => ?_) (fun h => ?_) <;> (try simp only [sh] at h) <;> try first | (exfalso; omega) | exact absurd trivial h | (simp at h; done)) | refine zA ?_ | refine zN ?_ | refine zO ?_ | refine zP ?_ | refine zB ?_ | refine zQ ?_ | refine Quo.t Qw ?_ | refine zL ent67 c1 ?_ | refine zG ent67 (fun h => c1) ?_ | refine zL ent67 c2 ?_ | refine zG ent67 (fun h => c2) ?_ | refine lB ?_ | refine lBA ?_ | refine zK ?_ | refine s1 ?_ | refine sA ?_ | refine zC ?_ | fail))
  ·conv => whnf
   exact Fin.pure (congrArg I e.symm)
  ·rename_i h5
   exact absurd h5.1 hv
  ·rename_i h5
   exact absurd h5.1 hv
set_option maxHeartbeats 4000000 in
theorem e7Night_ok (p : Pl) (d : Du) (hz : validZ p.zone = true) (hv : duB d = true) (hw : 0 ≤ p.lim.night.1 ∧ p.lim.night.1 ≤ 1440 ∧ 0 ≤ p.lim.night.2 ∧ p.lim.night.2 ≤ 1440) : FnA Tryz.prog 130 [.agg (zcs p.zone), duav d, spav p.lim.night] (.tup [I (nightD p d), I 0]) := by
 have c1 := e7Valid_ok d
 have hb := duB_bd hv
 have c2 := e3Window_ok p.zone d.frm d.to_ p.lim.night hz (by omega) hw
 rw [hv] at c1
 refine fn_run (T := tab) Tryz.func130 rfl Tryz.ntmps130 rfl Tryz.results130 (fun _ => ?_)
 repeat' ((conv => whnf) <;> (first | refine zM ?_ | refine zW ?_ | intro _ | exact zF | refine Br.tt ?_ | refine Br.ff ?_ | (refine Br.mk (fun h => ?_) (fun h => ?_) <;> (try simp only [sh] at h) <;> try first | (exfalso; omega) | exact absurd trivial h | (simp at h; done)) | refine zA ?_ | refine zN ?_ | refine zO ?_ | refine zP ?_ | refine zB ?_ | refine zQ ?_ | refine Quo.t Qw ?_ | refine zL ent67 c1 ?_ | refine zG ent67 (fun h => c1) ?_ | refine zL ent139 c2 ?_ | refine zG ent139 (fun h => c2) ?_ | refine lB ?_ | refine lBA ?_ | refine zK ?_ | refine s1 ?_ | refine sA ?_ | refine zC ?_ | fail))
end Go.Proofs.YtjfnkmlnbaianaaGreat
