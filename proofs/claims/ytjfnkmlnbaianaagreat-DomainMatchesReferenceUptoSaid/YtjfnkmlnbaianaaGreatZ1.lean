/-
  Walks: package zone: floor, stretches, Valid, check, within, Window.
  Conditions: those of each theorem.
-/
import Derived.Test.YtjfnkmlnbaianaaGreatTab
import Derived.Test.YtjfnkmlnbaianaaGreatE5E
import Derived.Test.YtjfnkmlnbaianaaGreatZA
import Derived.Test.YtjfnkmlnbaianaaGreatPA
namespace Go.Proofs.YtjfnkmlnbaianaaGreat
open Go.E2 Go.Wage
def chav (c : Int × Int) : AV := .agg [I c.1, I c.2]
def zcs (z : Zo) : List AV := [.v (.string z.name), I z.base, .sl 2 (z.chs.map chav)]
def spav (s : Sp) : AV := .agg [I s.1, I s.2]
theorem zfloor_ok (a : Int) (h : -9000000000000000000 ≤ a ∧ a ≤ 9000000000000000000) : FnA Tryz.prog 105 [I a, I 1440] (I (a / 1440)) := by
 rw [← fdiv_eq a 1440 (by omega)]
 have hq := tdiv_bd a 1440 (by omega) (by omega)
 refine fn_run (T := tab) Tryz.func105 rfl Tryz.ntmps105 rfl Tryz.results105 (fun _ => ?_)
 repeat' ((conv => whnf) <;> (first | refine zM ?_ | refine zW ?_ | intro _ | exact zF | refine Fin.pure ?_ | refine Br.tt ?_ | refine Br.ff ?_ | (refine Br.mk (fun h => ?_) (fun h => ?_) <;> (try simp only [sh] at h) <;> try first | (exfalso; omega) | exact absurd trivial h | (simp at h; done)) | refine zA ?_ | refine zN ?_ | refine zO ?_ | refine zP ?_ | refine zB ?_ | refine zQ ?_ | refine Quo.t Qw ?_ | refine zR ?_ | refine Rem.t Qw ?_ | refine zK ?_ | refine zC ?_ | fail))
 ·rw [fdiv, if_pos h]
 ·rw [fdiv, if_neg (by omega)]
theorem zStr_ok (z : Zo) (a b : Int) : FnE Tryz.prog 104 [.agg (zcs z), I a, I b] fun r E => ∃ g, r = .fn (.func 122) [.fp (zcs z) 0, .fp [I b] 0, .v (.pointer (some ⟨g, 0, none⟩))] ∧ E = [.blk g 3 false [I a]] := by
 refine fn_run (T := tab) Tryz.func104 rfl Tryz.ntmps104 rfl Tryz.results104 (fun _ => ?_)
 repeat' ((conv => whnf) <;> (first | refine zM ?_ | refine zW ?_ | intro _ | exact zF | refine Br.tt ?_ | refine Br.ff ?_ | (refine Br.mk (fun h => ?_) (fun h => ?_) <;> (try simp only [sh] at h) <;> try first | (exfalso; omega) | exact absurd trivial h | (simp at h; done)) | refine zA ?_ | refine zN ?_ | refine zO ?_ | refine zP ?_ | refine zB ?_ | refine zQ ?_ | refine Quo.t Qw ?_ | refine zR ?_ | refine Rem.t Qw ?_ | refine lB ?_ | refine lBA ?_ | refine zK ?_ | refine s1 ?_ | refine sA ?_ | refine zC ?_ | fail))
 conv => whnf
 refine Fin.frzB 0 rfl ?_
 refine Fin.frzB 2 rfl ?_
 refine Fin.see (Sb.fn (.cons (Sb.ptr 2 rfl) (.cons (Sb.ptr 0 rfl) (.cons (Sb.refl _) .nil)))) ?_
 exact .out [_] (.cons _ (.cons_cons _ (.cons _ (.refl _)))) ⟨_, rfl, rfl⟩
theorem drop_one {α : Type} {l ys : List α} {y : α} {j : Nat} (h : l.drop j = y :: ys) : l[j]? = some y ∧ l.drop (j + 1) = ys ∧ j + 1 ≤ l.length := by
 have hj : j < l.length := by
  rcases Nat.lt_or_ge j l.length with h' | h'
  ·exact h'
  ·rw [List.drop_eq_nil_of_le h'] at h; cases h
 rw [List.drop_eq_getElem_cons hj] at h
 injection h with h1 h2
 exact ⟨by rw [List.getElem?_eq_getElem hj, h1], h2, hj⟩
theorem dropZ {l : List (Int × Int)} {k : Nat} (h : k < l.length) : l.drop k = l.getD k default :: l.drop (k + 1) := by
 rw [List.drop_eq_getElem_cons h]
 simp [List.getD, h]
theorem zStr1_iter (z : Zo) (a b : Int) (g : Nat) (hlen : z.chs.length ≤ 9223372036854775807) : IterN Tryz.prog 122 [.fp (zcs z) 0, .fp [I b] 0, .v (.pointer (some ⟨g, 0, none⟩))] ((strZ z.base z.chs a b).map fun s => [spav s.1, I s.2]) [.blk g 3 false [I a]] := by
 refine ⟨fun c lp Iv S hy L hI => ?_⟩
 have hl : (z.chs.map chav).length = z.chs.length := by simp
 refine fnL_runY (T := tab) Tryz.func122 rfl Tryz.ntmps122 rfl Tryz.results122 (fun c1 hw0 hle0 => ?_)
 repeat' ((conv => whnf) <;> (first | refine zM ?_ | refine zW ?_ | intro _ | exact zF | refine Fin.pure ?_ | refine Br.tt ?_ | refine Br.ff ?_ | (refine Br.mk (fun h => ?_) (fun h => ?_) <;> (try simp only [sh] at h) <;> try first | (exfalso; omega) | exact absurd trivial h | (simp at h; done)) | refine zA ?_ | refine zN ?_ | refine zO ?_ | refine zP ?_ | refine zB ?_ | refine zQ ?_ | refine Quo.t Qw ?_ | refine zR ?_ | refine Rem.t Qw ?_ | refine lB ?_ | refine lBA ?_ | refine zK ?_ | refine s1 ?_ | refine sA ?_ | refine zC ?_ | fail))
 generalize hX : strZ z.base z.chs a b = X at *
 (conv => whnf); refine CK.loopY [5, 7, 8, 14, 15, 16, 17, 18, 19, 20, 21, 22, 23, 24, 25, 26, 27, 28, 29, 30, 31, 32, 33, 34, 35] (σ := Nat × Int × Int × List Ent × Nat) (fun s => s.1 ≤ z.chs.length ∧ s.2.2.2.2 ≤ X.length ∧ Iv s.2.2.2.2 s.2.2.2.1 ∧ X.drop s.2.2.2.2 = strZ s.2.1 (z.chs.drop s.1) s.2.2.1 b) (fun ⟨k, off, _⟩ => [(5, I off), (14, I k)]) (fun ⟨_, _, fr, L1, _⟩ => .blk g 3 false [I fr] :: L1) (fun s => z.chs.length - s.1) (0, z.base, a, L, 0) ⟨Nat.zero_le _, Nat.zero_le _, hI, hX.symm⟩ Qy (List.Sublist.refl _) ?_
 conv => whnf
 rintro ⟨k, off, fr, L1, j⟩ ⟨i1, i0, i2, i3⟩
 simp only at i0 i1 i2 i3
 by_cases hlt : k < z.chs.length
 ·rw [dropZ hlt, strZ] at i3
  by_cases hc : fr < min (z.chs.getD k default).1 b
  ·rw [if_pos hc] at i3
   obtain ⟨j1, j2, j3⟩ := drop_one i3
   have hx : (X.map fun s => [spav s.1, I s.2])[j]? = some [spav (fr, min (z.chs.getD k default).1 b), I off] := by rw [List.getElem?_map, j1]; rfl
   repeat' ((conv => whnf) <;> (first | (refine YK.yield (T := tab) Qk rfl rfl (SbL.refl _) (hy j _ [_, _] L1 c1 hw0 hle0 hx i2) ?_ <;> rintro q _ ⟨L2, rfl, hq⟩) | refine CK.regY 5 Qk ?_ | refine zM ?_ | refine zW ?_ | intro _ | exact zF | refine Br.tt ?_ | refine Br.ff ?_ | (refine Br.mk (fun h => ?_) (fun h => ?_) <;> (try simp only [sh] at h) <;> try first | (exfalso; omega) | exact absurd trivial h | (simp at h; done)) | refine zA ?_ | refine zN ?_ | refine zO ?_ | refine zP ?_ | refine zB ?_ | refine zQ ?_ | refine Quo.t Qw ?_ | refine zR ?_ | refine Rem.t Qw ?_ | refine lB ?_ | refine lBA ?_ | refine zK ?_ | refine s1 ?_ | refine sA ?_ | refine zC ?_ | fail))
   ·conv => whnf
    subst h
    exact .out _ (List.Sublist.refl _) ⟨rfl, [_, _], L2, rfl, .inr hq⟩
   ·subst h
    (conv => whnf); (refine Nxt.of ((k + 1, (z.chs.getD k default).2, min (z.chs.getD k default).1 b, L2, j + 1)) [5, 7, 8, 14, 15, 16, 17, 18, 19, 20, 21, 22, 23, 24, 25, 26, 27, 28, 29, 30, 31, 32, 33, 34, 35] Qr Qr Qr ?_ ?_ Qy Qs <;> (try dsimp only) <;> (try omega))
    exact ⟨by omega, j3, hq, j2⟩
  ·rw [if_neg hc] at i3
   repeat' ((conv => whnf) <;> (first | refine zM ?_ | refine zW ?_ | intro _ | exact zF | refine Br.tt ?_ | refine Br.ff ?_ | (refine Br.mk (fun h => ?_) (fun h => ?_) <;> (try simp only [sh] at h) <;> try first | (exfalso; omega) | exact absurd trivial h | (simp at h; done)) | refine zA ?_ | refine zN ?_ | refine zO ?_ | refine zP ?_ | refine zB ?_ | refine zQ ?_ | refine Quo.t Qw ?_ | refine zR ?_ | refine Rem.t Qw ?_ | refine lB ?_ | refine lBA ?_ | refine zK ?_ | refine s1 ?_ | refine sA ?_ | refine zC ?_ | fail))
   (conv => whnf); (refine Nxt.of ((k + 1, (z.chs.getD k default).2, fr, L1, j)) [5, 7, 8, 14, 15, 16, 17, 18, 19, 20, 21, 22, 23, 24, 25, 26, 27, 28, 29, 30, 31, 32, 33, 34, 35] Qr Qr Qr ?_ ?_ Qy Qs <;> (try dsimp only) <;> (try omega))
   exact ⟨by omega, i0, i2, i3⟩
 ·rw [show z.chs.drop k = [] from List.drop_eq_nil_of_le (by omega), strZ] at i3
  by_cases hc : fr < b
  ·rw [if_pos hc] at i3
   obtain ⟨j1, j2, j3⟩ := drop_one i3
   have hx : (X.map fun s => [spav s.1, I s.2])[j]? = some [spav (fr, b), I off] := by rw [List.getElem?_map, j1]; rfl
   have hj : (X.map fun s => [spav s.1, I s.2]).length = j + 1 := by
    have := congrArg List.length j2
    rw [List.length_drop, List.length_nil] at this
    rw [List.length_map]; omega
   repeat' ((conv => whnf) <;> (first | (refine YK.yield (T := tab) Qk rfl rfl (SbL.refl _) (hy j _ [_] L1 c1 hw0 hle0 hx i2) ?_ <;> rintro q _ ⟨L2, rfl, hq⟩) | refine CK.regY 5 Qk ?_ | refine zM ?_ | refine zW ?_ | intro _ | exact zF | refine Br.tt ?_ | refine Br.ff ?_ | (refine Br.mk (fun h => ?_) (fun h => ?_) <;> (try simp only [sh] at h) <;> try first | (exfalso; omega) | exact absurd trivial h | (simp at h; done)) | refine zA ?_ | refine zN ?_ | refine zO ?_ | refine zP ?_ | refine zB ?_ | refine zQ ?_ | refine Quo.t Qw ?_ | refine zR ?_ | refine Rem.t Qw ?_ | refine lB ?_ | refine lBA ?_ | refine zK ?_ | refine s1 ?_ | refine sA ?_ | refine zC ?_ | fail))
   conv => whnf
   refine .out _ (List.Sublist.refl _) ⟨rfl, [_], L2, rfl, ?_⟩
   cases q with
   | true => rw [hj]; exact .inl hq
   | false => exact .inr hq
  ·rw [if_neg hc] at i3
   have hj : (X.map fun s => [spav s.1, I s.2]).length = j := by
    have := congrArg List.length i3
    rw [List.length_drop, List.length_nil] at this
    rw [List.length_map]; omega
   repeat' ((conv => whnf) <;> (first | refine zM ?_ | refine zW ?_ | intro _ | exact zF | refine Br.tt ?_ | refine Br.ff ?_ | (refine Br.mk (fun h => ?_) (fun h => ?_) <;> (try simp only [sh] at h) <;> try first | (exfalso; omega) | exact absurd trivial h | (simp at h; done)) | refine zA ?_ | refine zN ?_ | refine zO ?_ | refine zP ?_ | refine zB ?_ | refine zQ ?_ | refine Quo.t Qw ?_ | refine zR ?_ | refine Rem.t Qw ?_ | refine lB ?_ | refine lBA ?_ | refine zK ?_ | refine s1 ?_ | refine sA ?_ | refine zC ?_ | fail))
   conv => whnf
   exact .out _ (List.Sublist.refl _) ⟨rfl, [_], L1, rfl, .inl (by rw [hj]; exact i2)⟩
end Go.Proofs.YtjfnkmlnbaianaaGreat
namespace Go.Proofs.YtjfnkmlnbaianaaGreat
open Go.E2 Go.Wage
theorem all_no {α : Type} {p : α → Bool} {l : List α} {k : Nat} {d : α} (hk : k < l.length) (hp : p (l.getD k d) = false) : l.all p = false := by
 rw [List.all_eq_false]
 exact ⟨l[k], List.getElem_mem hk, by simpa [List.getD, hk] using hp⟩
theorem okC_at {z : Zo} {k i : Nat} (h : (List.range k).all (okC z) = true) (hi : i < k) : 0 ≤ (z.chs.getD i default).1 ∧ (z.chs.getD i default).1 ≤ 52595999 ∧ -840 ≤ (z.chs.getD i default).2 ∧ (z.chs.getD i default).2 ≤ 840 := by
 have := List.all_eq_true.1 h i (List.mem_range.2 hi)
 unfold okC at this
 simp only [Bool.and_eq_true, decide_eq_true_eq] at this
 omega
set_option maxHeartbeats 4000000 in
theorem zValid_ok (z : Zo) (hlen : z.chs.length ≤ 9223372036854775807) : FnA Tryz.prog 75 [.agg (zcs z)] (B (validZ z)) := by
 have hl : (z.chs.map chav).length = z.chs.length := by simp
 refine fn_run (T := tab) Tryz.func75 rfl Tryz.ntmps75 rfl Tryz.results75 (fun _ => ?_)
 repeat' ((conv => whnf) <;> (first | refine zM ?_ | refine zW ?_ | intro _ | exact zF | refine Fin.pure ?_ | refine Br.tt ?_ | refine Br.ff ?_ | (refine Br.mk (fun h => ?_) (fun h => ?_) <;> (try simp only [sh] at h) <;> try first | (exfalso; omega) | exact absurd trivial h | (simp at h; done)) | refine zA ?_ | refine zN ?_ | refine zO ?_ | refine zP ?_ | refine zB ?_ | refine zQ ?_ | refine Quo.t Qw ?_ | refine zR ?_ | refine Rem.t Qw ?_ | refine lB ?_ | refine lBA ?_ | refine zK ?_ | refine s1 ?_ | refine sA ?_ | refine zC ?_ | fail))
 ·refine congrArg B ?_
  symm
  rw [← Bool.not_eq_true, validZ]
  simp only [Bool.and_eq_true, decide_eq_true_eq]
  omega
 have h0 := h
 (conv => whnf); refine CK.loop [2, 3, 4, 5, 25, 26, 27, 28, 29, 30, 31, 32, 33, 34, 35, 36, 37, 38, 39, 40, 41, 42, 43, 44, 45, 46, 47, 48, 49, 50, 51, 52, 53, 54, 55, 56, 57, 58, 59, 60, 61, 62, 63, 64, 65, 66, 67, 68, 69, 70, 71, 72, 73, 74, 75] (σ := Nat) (fun k => k ≤ z.chs.length ∧ (List.range k).all (okC z) = true) (fun k => [(25, I k), (3, I (if k = 0 then z.base else (z.chs.getD (k - 1) default).2))]) (fun _ => _) (fun k => z.chs.length - k) 0 ⟨Nat.zero_le _, rfl⟩ Qy (List.Sublist.refl _) ?_
 conv => whnf
 rintro k ⟨i1, i2⟩
 have hp : 0 < k → _ := fun h => okC_at (i := k - 1) i2 (by omega)
 have ho : -840 ≤ (if k = 0 then z.base else (z.chs.getD (k - 1) default).2) ∧ (if k = 0 then z.base else (z.chs.getD (k - 1) default).2) ≤ 840 := by
  split
  ·omega
  ·have := hp (by omega); omega
 generalize hof : (if k = 0 then z.base else (z.chs.getD (k - 1) default).2) = off at *
 by_cases hk : k < z.chs.length
 ·have hno : okC z k = false → validZ z = false := fun h => by
   rw [validZ, all_no (k := k) (d := 0) (by simpa using hk) (by rw [List.getD, List.getElem?_range hk]; exact h), Bool.and_false]
  have hok : okC z k = (decide (0 ≤ (z.chs.getD k default).1 ∧ (z.chs.getD k default).1 ≤ 52595999) && (decide (k = 0) || decide (2880 ≤ (z.chs.getD k default).1 - (z.chs.getD (k - 1) default).1)) &&
    decide (-840 ≤ (z.chs.getD k default).2 ∧ (z.chs.getD k default).2 ≤ 840) && decide ((z.chs.getD k default).2 - off ≤ 60 ∧ off - (z.chs.getD k default).2 ≤ 60)) := by
   unfold okC; rw [hof]
  have e1 : ((k : Int) - 1).toNat = k - 1 := by omega
  have hp2 : 0 < k → 0 ≤ (z.chs.getD ((k : Int) - 1).toNat default).1 ∧ (z.chs.getD ((k : Int) - 1).toNat default).1 ≤ 52595999 := fun h => by rw [e1]; have := hp h; omega
  repeat' ((conv => whnf) <;> (first | refine zM ?_ | refine zW ?_ | intro _ | exact zF | refine Fin.pure ?_ | refine Br.tt ?_ | refine Br.ff ?_ | (refine Br.mk (fun h => ?_) (fun h => ?_) <;> (try simp only [sh] at h) <;> try first | (exfalso; omega) | exact absurd trivial h | (simp at h; done)) | refine zA ?_ | refine zN ?_ | refine zO ?_ | refine zP ?_ | refine zB ?_ | refine zQ ?_ | refine Quo.t Qw ?_ | refine zR ?_ | refine Rem.t Qw ?_ | refine lB ?_ | refine lBA ?_ | refine zK ?_ | refine s1 ?_ | refine sA ?_ | refine zC ?_ | fail))
  ·refine congrArg B (hno ?_).symm
   rw [hok, ← Bool.not_eq_true]
   simp only [Bool.and_eq_true, Bool.or_eq_true, decide_eq_true_eq]
   omega
  ·refine congrArg B (hno ?_).symm
   rw [hok, ← Bool.not_eq_true]
   simp only [Bool.and_eq_true, Bool.or_eq_true, decide_eq_true_eq]
   omega
  ·refine congrArg B (hno ?_).symm
   rw [hok, ← Bool.not_eq_true]
   simp only [Bool.and_eq_true, Bool.or_eq_true, decide_eq_true_eq]
   omega
  ·refine congrArg B (hno ?_).symm
   rw [hok, ← Bool.not_eq_true]
   simp only [Bool.and_eq_true, Bool.or_eq_true, decide_eq_true_eq]
   omega
  ·(conv => whnf); (refine Nxt.of (k + 1) [2, 3, 4, 5, 25, 26, 27, 28, 29, 30, 31, 32, 33, 34, 35, 36, 37, 38, 39, 40, 41, 42, 43, 44, 45, 46, 47, 48, 49, 50, 51, 52, 53, 54, 55, 56, 57, 58, 59, 60, 61, 62, 63, 64, 65, 66, 67, 68, 69, 70, 71, 72, 73, 74, 75] Qr Qr Qr ?_ ?_ Qy Qs <;> (try dsimp only) <;> (try omega))
   refine ⟨by omega, ?_⟩
   rw [List.range_succ, List.all_append, i2]
   simp only [List.all_cons, List.all_nil, Bool.and_true, Bool.true_and]
   rw [hok]
   simp only [Bool.and_eq_true, Bool.or_eq_true, decide_eq_true_eq]
   omega
 ·repeat' ((conv => whnf) <;> (first | refine zM ?_ | refine zW ?_ | intro _ | exact zF | refine Fin.pure ?_ | refine Br.tt ?_ | refine Br.ff ?_ | (refine Br.mk (fun h => ?_) (fun h => ?_) <;> (try simp only [sh] at h) <;> try first | (exfalso; omega) | exact absurd trivial h | (simp at h; done)) | refine zA ?_ | refine zN ?_ | refine zO ?_ | refine zP ?_ | refine zB ?_ | refine zQ ?_ | refine Quo.t Qw ?_ | refine zR ?_ | refine Rem.t Qw ?_ | refine lB ?_ | refine lBA ?_ | refine zK ?_ | refine s1 ?_ | refine sA ?_ | refine zC ?_ | fail))
  refine congrArg B ?_
  have e : k = z.chs.length := by omega
  rw [e] at i2
  rw [validZ, i2, decide_eq_true (by omega), decide_eq_true (by omega)]; rfl
theorem zwithin_ok (a b : Int) (w : Sp) (h : -100000 ≤ a ∧ a ≤ 100000 ∧ -100000 ≤ b ∧ b ≤ 100000 ∧ -100000 ≤ w.1 ∧ w.1 ≤ 100000 ∧ -100000 ≤ w.2 ∧ w.2 ≤ 100000) : FnA Tryz.prog 108 [I a, I b, spav w] (I (winR a b w)) := by
 refine fn_run (T := tab) Tryz.func108 rfl Tryz.ntmps108 rfl Tryz.results108 (fun _ => ?_)
 repeat' ((conv => whnf) <;> (first | refine zM ?_ | refine zW ?_ | intro _ | exact zF | refine Fin.pure ?_ | refine Br.tt ?_ | refine Br.ff ?_ | (refine Br.mk (fun h => ?_) (fun h => ?_) <;> (try simp only [sh] at h) <;> try first | (exfalso; omega) | exact absurd trivial h | (simp at h; done)) | refine zA ?_ | refine zN ?_ | refine zO ?_ | refine zP ?_ | refine zB ?_ | refine zQ ?_ | refine Quo.t Qw ?_ | refine zR ?_ | refine Rem.t Qw ?_ | refine lB ?_ | refine lBA ?_ | refine zK ?_ | refine s1 ?_ | refine sA ?_ | refine zC ?_ | fail))
 ·rw [winR, if_pos (by omega)]
 ·rw [winR, if_neg (by omega)]
theorem zcheck_ok (z : Zo) (a b : Int) (hlen : z.chs.length ≤ 9223372036854775807) : FnA Tryz.prog 103 [.agg (zcs z), I a, I b] (B (validZ z && decide (0 ≤ a) && decide (a ≤ b) && decide (b ≤ 52596000))) := by
 have c1 := zValid_ok z hlen
 refine fn_run (T := tab) Tryz.func103 rfl Tryz.ntmps103 rfl Tryz.results103 (fun _ => ?_)
 repeat' ((conv => whnf) <;> (first | refine zM ?_ | refine zW ?_ | intro _ | exact zF | refine Fin.pure ?_ | refine Br.tt ?_ | refine Br.ff ?_ | (refine Br.mk (fun h => ?_) (fun h => ?_) <;> (try simp only [sh] at h) <;> try first | (exfalso; omega) | exact absurd trivial h | (simp at h; done)) | refine zA ?_ | refine zN ?_ | refine zO ?_ | refine zP ?_ | refine zB ?_ | refine zQ ?_ | refine Quo.t Qw ?_ | refine zR ?_ | refine Rem.t Qw ?_ | refine zL ent75 c1 ?_ | refine zG ent75 (fun h => c1) ?_ | refine lB ?_ | refine lBA ?_ | refine zK ?_ | refine s1 ?_ | refine sA ?_ | refine zC ?_ | fail))
end Go.Proofs.YtjfnkmlnbaianaaGreat
namespace Go.Proofs.YtjfnkmlnbaianaaGreat
open Go.E2 Go.Wage
theorem winZ_bd (w : Sp) : ∀ l : List (Sp × Int), (∀ s ∈ l, s.1.1 ≤ s.1.2 ∧ s.1.2 - s.1.1 ≤ 44640) → 0 ≤ winZ w l ∧ winZ w l ≤ 44640 * l.length
 | [], _ => by simp [winZ]
 | s :: l, h => by
  have h1 := h s (by simp)
  have h2 := winZ_bd w l fun t ht => h t (by simp [ht])
  have h3 := winM_bd w (a := s.1.1 + s.2) (b := s.1.2 + s.2) (by omega)
  have e : winZ w (s :: l) = winM w (s.1.1 + s.2) (s.1.2 + s.2) + winZ w l := by simp [winZ]
  rw [e, List.length_cons]
  omega
set_option maxHeartbeats 4000000 in
theorem zWindow_ok (z : Zo) (a b : Int) (w : Sp) (hlen : z.chs.length ≤ 64) (hXl : (strZ z.base z.chs a b).length ≤ 65) (hz : validZ z = true) (hX : ∀ s ∈ strZ z.base z.chs a b, a ≤ s.1.1 ∧ s.1.1 < s.1.2 ∧ s.1.2 ≤ b ∧ -840 ≤ s.2 ∧ s.2 ≤ 840) (hab : 0 ≤ a ∧ a ≤ b ∧ b ≤ 52596000 ∧ b - a ≤ 44640) (hw : 0 ≤ w.1 ∧ w.1 ≤ 1440 ∧ 0 ≤ w.2 ∧ w.2 ≤ 1440) :
  FnA Tryz.prog 80 [.agg (zcs z), I a, I b, spav w] (.tup [I (winZ w (strZ z.base z.chs a b)), I 0]) := by
 have c1 := zcheck_ok z a b (by omega)
 have c2 := zStr_ok z a b
 have hit := fun g => zStr1_iter z a b g (by omega)
 generalize strZ z.base z.chs a b = X at *
 refine fnM_run (T := tab) Tryz.func80 rfl Tryz.ntmps80 rfl Tryz.results80 (fun _ => ?_)
 repeat' ((conv => whnf) <;> (first | refine zM ?_ | refine zW ?_ | intro _ | exact zF | refine Fin.pure ?_ | refine Br.tt ?_ | refine Br.ff ?_ | (refine Br.mk (fun h => ?_) (fun h => ?_) <;> (try simp only [sh] at h) <;> try first | (exfalso; omega) | exact absurd trivial h | (simp at h; done)) | refine zA ?_ | refine zN ?_ | refine zO ?_ | refine zP ?_ | refine zB ?_ | refine zQ ?_ | refine Quo.t Qw ?_ | refine zR ?_ | refine Rem.t Qw ?_ | refine zL ent103 c1 ?_ | refine zG ent103 (fun h => c1) ?_ | (refine LK.call ent104 (c2) rfl rfl Ql (fun _ _ hcall => ?_) <;> obtain ⟨g, rfl, rfl⟩ := hcall) | refine lB ?_ | refine lBA ?_ | refine zK ?_ | refine s1 ?_ | refine sA ?_ | refine zC ?_ | fail))
 ·rw [hz] at h
  simp only [Bool.true_eq_false, false_or] at h
  omega
 rename_i c0 b4 b7 hh1 hh2 b10
 conv => whnf
 have hlX := hXl
 refine CK.rangeN (T := tab) (p := [48, 49]) ent122 (fun x hx => by obtain ⟨s, _, rfl⟩ := List.mem_map.1 hx; rfl) rfl (Sb.refl _) (hit g) (σ := Int) (fun j t => t = winZ w (X.take j)) (fun t => [.blk b10 3 false [I t]]) _ (fun _ _ => False) 0 (by simp [winZ]) (List.Sublist.refl _) ?_ ?_ (fun _ _ _ h => h.elim)
 ·intro j x t hx ht c' lp T1 T2
  rw [List.getElem?_map] at hx
  obtain ⟨s, hs, rfl⟩ : ∃ s, X[j]? = some s ∧ [spav s.1, I s.2] = x := by
   cases h : X[j]? with
   | none => rw [h] at hx; cases hx
   | some s => rw [h] at hx; exact ⟨s, rfl, by simpa using hx⟩
  have hsX := hX s (List.mem_of_getElem? hs)
  have hjl : j < X.length := (List.getElem?_eq_some_iff.1 hs).1
  have hwb := winZ_bd w (X.take j) (fun q hq => by have := hX q (List.mem_of_mem_take hq); omega)
  rw [← ht, List.length_take] at hwb
  have hmb := winM_bd w (a := s.1.1 + s.2) (b := s.1.2 + s.2) (by omega)
  repeat' ((conv => whnf) <;> (first | refine Bgn.at 4 (List.Sublist.refl _) ?_ | refine zM ?_ | refine zW ?_ | intro _ | exact zF | refine Fin.pure ?_ | refine Br.tt ?_ | refine Br.ff ?_ | (refine Br.mk (fun h => ?_) (fun h => ?_) <;> (try simp only [sh] at h) <;> try first | (exfalso; omega) | exact absurd trivial h | (simp at h; done)) | refine zA ?_ | refine zN ?_ | refine zO ?_ | refine zP ?_ | refine zB ?_ | refine zQ ?_ | refine Quo.t Qw ?_ | refine zR ?_ | refine Rem.t Qw ?_ | refine lB ?_ | refine lBA ?_ | refine zK ?_ | refine s1 ?_ | refine sA ?_ | refine zC ?_ | fail))
  conv => whnf
  rename_i b11
  (conv => whnf); refine CK.loopK [13, 15, 16, 58, 59, 60, 61, 62, 63, 64, 65, 66, 67, 68, 69, 70, 71, 72, 73, 74, 75, 76, 77, 78] (σ := Int × Int) (fun q => s.1.1 + s.2 ≤ q.1 ∧ q.1 ≤ s.1.2 + s.2 ∧ t ≤ q.2 ∧ q.2 + winM w q.1 (s.1.2 + s.2) = t + winM w (s.1.1 + s.2) (s.1.2 + s.2)) (fun q => [(13, I q.1)]) (fun q => [.blk b11 28 false [I s.1.1, I s.1.2], .blk b10 3 false [I q.2]]) _ (fun q => (s.1.2 + s.2 - q.1).toNat) (s.1.1 + s.2, t) ⟨Int.le_refl _, by omega, Int.le_refl _, rfl⟩ Qy (List.Sublist.refl _) ?_
  conv => whnf
  rintro ⟨l, u⟩ ⟨i1, i2, i3, i4⟩
  simp only at i1 i2 i3 i4
  have hlb := winM_bd w (a := l) (b := s.1.2 + s.2) i2
  by_cases hle : l < s.1.2 + s.2
  ·have c3 := zfloor_ok l (by omega)
   have c4 := zwithin_ok (l - l / 1440 * 1440) (min (l / 1440 * 1440 + 1440) (s.1.2 + s.2) - l / 1440 * 1440) w (by omega)
   have hst := win_step (w := w) (l := l) (e := s.1.2 + s.2) ⟨hw.1, hw.2.2.1⟩ hle
   have hb2 := winM_bd w (a := min (l / 1440 * 1440 + 1440) (s.1.2 + s.2)) (b := s.1.2 + s.2) (by omega)
   have hr : 0 ≤ winR (l - l / 1440 * 1440) (min (l / 1440 * 1440 + 1440) (s.1.2 + s.2) - l / 1440 * 1440) w := by unfold winR; split <;> omega
   repeat' ((conv => whnf) <;> (first | (refine Nxt.of ((min (l / 1440 * 1440 + 1440) (s.1.2 + s.2), _)) [13, 15, 16, 58, 59, 60, 61, 62, 63, 64, 65, 66, 67, 68, 69, 70, 71, 72, 73, 74, 75, 76, 77, 78] Qr Qr Qr ?_ ?_ Qy Qs <;> (try dsimp only) <;> (try omega)) | refine CK.anyK (id := 15) [1, 2, 3, 4, 5, 6, 7, 8] [0, 9, 10] _ (List.Sublist.cons_cons _ (List.Sublist.cons _ (List.Sublist.refl _))) Qk ?_ | refine zM ?_ | refine zW ?_ | intro _ | exact zF | refine Fin.pure ?_ | refine Br.tt ?_ | refine Br.ff ?_ | (refine Br.mk (fun h => ?_) (fun h => ?_) <;> (try simp only [sh] at h) <;> try first | (exfalso; omega) | exact absurd trivial h | (simp at h; done)) | refine zA ?_ | refine zN ?_ | refine zO ?_ | refine zP ?_ | refine zB ?_ | refine zQ ?_ | refine Quo.t Qw ?_ | refine zR ?_ | refine Rem.t Qw ?_ | refine zL ent105 c3 ?_ | refine zG ent105 (fun h => c3) ?_ | refine zL ent108 c4 ?_ | refine zG ent108 (fun h => c4) ?_ | refine lB ?_ | refine lBA ?_ | refine zK ?_ | refine s1 ?_ | refine sA ?_ | refine Kx.nil ?_ | refine Kx.stp rfl rfl Qs ?_ | refine kA ?_ | (refine Kx.frzR 0 rfl ?_ <;> refine kF ?_) | refine kP ?_ | refine k1 ?_ | refine kB ?_ | refine kL ?_ | refine zC ?_ | fail))
  ·have e : l = s.1.2 + s.2 := by omega
   have e2 : winZ w (X.take (j + 1)) = winZ w (X.take j) + winM w (s.1.1 + s.2) (s.1.2 + s.2) := by
    obtain ⟨hj1, hj2⟩ := List.getElem?_eq_some_iff.1 hs
    rw [List.take_succ_eq_append_getElem hj1, hj2]
    simp [winZ]
   rw [e] at i4
   have e3 : winM w (s.1.2 + s.2) (s.1.2 + s.2) = 0 := cnt_self _ _
   repeat' ((conv => whnf) <;> (first | refine Rnd.of u (by rw [e2]; omega) Qs | refine zM ?_ | refine zW ?_ | intro _ | exact zF | refine Fin.pure ?_ | refine Br.tt ?_ | refine Br.ff ?_ | (refine Br.mk (fun h => ?_) (fun h => ?_) <;> (try simp only [sh] at h) <;> try first | (exfalso; omega) | exact absurd trivial h | (simp at h; done)) | refine zA ?_ | refine zN ?_ | refine zO ?_ | refine zP ?_ | refine zB ?_ | refine zQ ?_ | refine Quo.t Qw ?_ | refine zR ?_ | refine Rem.t Qw ?_ | refine lB ?_ | refine lBA ?_ | refine zK ?_ | refine s1 ?_ | refine sA ?_ | refine zC ?_ | fail))
 ·intro t D ht
  rw [List.length_map, List.take_length] at ht
  subst ht
  repeat' ((conv => whnf) <;> (first | refine Unm.at 0 rfl ?_ | refine zM ?_ | refine zW ?_ | intro _ | exact zF | refine Fin.pure ?_ | refine Br.tt ?_ | refine Br.ff ?_ | (refine Br.mk (fun h => ?_) (fun h => ?_) <;> (try simp only [sh] at h) <;> try first | (exfalso; omega) | exact absurd trivial h | (simp at h; done)) | refine zA ?_ | refine zN ?_ | refine zO ?_ | refine zP ?_ | refine zB ?_ | refine zQ ?_ | refine Quo.t Qw ?_ | refine zR ?_ | refine Rem.t Qw ?_ | refine lB ?_ | refine lBA ?_ | refine zK ?_ | refine s1 ?_ | refine sA ?_ | refine zC ?_ | fail))
end Go.Proofs.YtjfnkmlnbaianaaGreat
