/-
  Walks: the references of chapters 3, 4, 17 and 18: validity, minutes.
  Conditions: those of each theorem.
-/
import Derived.Test.YtjfnkmlnbaianaaGreatRV
import Derived.Test.YtjfnkmlnbaianaaGreatE5E
import Derived.Test.YtjfnkmlnbaianaaGreatZF
namespace Go.Proofs.YtjfnkmlnbaianaaGreat
open Go.E2 Go.Wage
theorem e3Instant_ok (t : Int) : FnA Tryz.prog 63 [I t] (B (decide (0 ≤ t ∧ t ≤ 52595999))) := by
 refine fn_run (T := tab) Tryz.func63 rfl Tryz.ntmps63 rfl Tryz.results63 (fun _ => ?_)
 repeat' ((conv => whnf) <;> (first | refine zM ?_ | refine zW ?_ | intro _ | exact zF | refine Fin.pure ?_ | refine Br.tt ?_ | refine Br.ff ?_ | (refine Br.mk (fun h => ?_) (fun h => ?_) <;> (try simp only [sh] at h) <;> try first | (exfalso; omega) | exact absurd trivial h | (simp at h; done)) | refine zA ?_ | refine zN ?_ | refine zO ?_ | refine zP ?_ | refine zB ?_ | refine zQ ?_ | refine Quo.t Qw ?_ | refine zR ?_ | refine Rem.t Qw ?_ | refine zK ?_ | refine zC ?_ | fail))
 all_goals (refine congrArg B ?_; rw [Bool.eq_iff_iff]; simp only [Bool.and_eq_true, decide_eq_true_eq])
theorem e3Day_ok (t : Int) : FnA Tryz.prog 88 [I t] (B (okDay t)) := by
 refine fn_run (T := tab) Tryz.func88 rfl Tryz.ntmps88 rfl Tryz.results88 (fun _ => ?_)
 repeat' ((conv => whnf) <;> (first | refine zM ?_ | refine zW ?_ | intro _ | exact zF | refine Fin.pure ?_ | refine Br.tt ?_ | refine Br.ff ?_ | (refine Br.mk (fun h => ?_) (fun h => ?_) <;> (try simp only [sh] at h) <;> try first | (exfalso; omega) | exact absurd trivial h | (simp at h; done)) | refine zA ?_ | refine zN ?_ | refine zO ?_ | refine zP ?_ | refine zB ?_ | refine zQ ?_ | refine Quo.t Qw ?_ | refine zR ?_ | refine Rem.t Qw ?_ | refine zK ?_ | refine zC ?_ | fail))
 all_goals (refine congrArg B ?_; unfold okDay; rw [Bool.eq_iff_iff]; simp only [Bool.and_eq_true, decide_eq_true_eq])
theorem e3apart_ok (a b : Int) : FnA Tryz.prog 64 [I a, I b] (I (max (IntKind.i64.wrap (a - b)) (IntKind.i64.wrap (b - a)))) := by
 refine fn_run (T := tab) Tryz.func64 rfl Tryz.ntmps64 rfl Tryz.results64 (fun _ => ?_)
 repeat' ((conv => whnf) <;> (first | refine zM ?_ | refine zW ?_ | refine MW.wr ?_ | intro _ | exact zF | refine Fin.pure ?_ | refine Br.tt ?_ | refine Br.ff ?_ | (refine Br.mk (fun h => ?_) (fun h => ?_) <;> (try simp only [sh] at h) <;> try first | (exfalso; omega) | exact absurd trivial h | (simp at h; done)) | refine zA ?_ | refine zN ?_ | refine zO ?_ | refine zP ?_ | refine zB ?_ | refine zQ ?_ | refine Quo.t Qw ?_ | refine zR ?_ | refine Rem.t Qw ?_ | refine zK ?_ | refine zC ?_ | fail))
theorem wrap_id {x : Int} (h : -9223372036854775808 ≤ x ∧ x ≤ 9223372036854775807) : IntKind.i64.wrap x = x := by
 simp [IntKind.wrap, IntKind.bits, IntKind.signed]
 omega
theorem e3Stretch_ok (a b : Int) : FnA Tryz.prog 86 [I a, I b] (B (decide (0 ≤ a ∧ a ≤ b ∧ b ≤ 52596000))) := by
 refine fn_run (T := tab) Tryz.func86 rfl Tryz.ntmps86 rfl Tryz.results86 (fun _ => ?_)
 repeat' ((conv => whnf) <;> (first | refine zM ?_ | refine zW ?_ | intro _ | exact zF | refine Fin.pure ?_ | refine Br.tt ?_ | refine Br.ff ?_ | (refine Br.mk (fun h => ?_) (fun h => ?_) <;> (try simp only [sh] at h) <;> try first | (exfalso; omega) | exact absurd trivial h | (simp at h; done)) | refine zA ?_ | refine zN ?_ | refine zO ?_ | refine zP ?_ | refine zB ?_ | refine zQ ?_ | refine Quo.t Qw ?_ | refine zR ?_ | refine Rem.t Qw ?_ | refine zK ?_ | refine zC ?_ | fail))
 all_goals (refine congrArg B ?_; rw [Bool.eq_iff_iff]; simp only [Bool.and_eq_true, decide_eq_true_eq]; omega)
theorem e3Frame_ok (w : Sp) : FnA Tryz.prog 66 [spav w] (B (inB w.1 1440 && inB w.2 1440)) := by
 refine fn_run (T := tab) Tryz.func66 rfl Tryz.ntmps66 rfl Tryz.results66 (fun _ => ?_)
 repeat' ((conv => whnf) <;> (first | refine zM ?_ | refine zW ?_ | intro _ | exact zF | refine Fin.pure ?_ | refine Br.tt ?_ | refine Br.ff ?_ | (refine Br.mk (fun h => ?_) (fun h => ?_) <;> (try simp only [sh] at h) <;> try first | (exfalso; omega) | exact absurd trivial h | (simp at h; done)) | refine zA ?_ | refine zN ?_ | refine zO ?_ | refine zP ?_ | refine zB ?_ | refine zQ ?_ | refine Quo.t Qw ?_ | refine zR ?_ | refine Rem.t Qw ?_ | refine lB ?_ | refine lBA ?_ | refine zK ?_ | refine s1 ?_ | refine sA ?_ | refine zC ?_ | fail))
 all_goals (refine congrArg B ?_; unfold inB; rw [Bool.eq_iff_iff]; simp only [Bool.and_eq_true, decide_eq_true_eq]; omega)
set_option maxHeartbeats 4000000 in
theorem e3Valid_ok (z : Zo) (hlen : z.chs.length ≤ 9223372036854775807) : FnA Tryz.prog 44 [.agg (zcs z)] (B (validZ z)) := by
 have hl : (z.chs.map chav).length = z.chs.length := by simp
 refine fn_run (T := tab) Tryz.func44 rfl Tryz.ntmps44 rfl Tryz.results44 (fun _ => ?_)
 repeat' ((conv => whnf) <;> (first | refine zM ?_ | refine zW ?_ | intro _ | exact zF | refine Fin.pure ?_ | refine Br.tt ?_ | refine Br.ff ?_ | (refine Br.mk (fun h => ?_) (fun h => ?_) <;> (try simp only [sh] at h) <;> try first | (exfalso; omega) | exact absurd trivial h | (simp at h; done)) | refine zA ?_ | refine zN ?_ | refine zO ?_ | refine zP ?_ | refine zB ?_ | refine zQ ?_ | refine Quo.t Qw ?_ | refine zR ?_ | refine Rem.t Qw ?_ | refine lB ?_ | refine lBA ?_ | refine zK ?_ | refine s1 ?_ | refine sA ?_ | refine zC ?_ | fail))
 ·refine congrArg B ?_
  symm
  rw [← Bool.not_eq_true, validZ]
  simp only [Bool.and_eq_true, decide_eq_true_eq]
  omega
 have h0 := h
 (conv => whnf); refine CK.loop [2, 3, 4, 5, 22, 23, 24, 25, 26, 27, 28, 29, 30, 31, 32, 33, 34, 35, 36, 37, 38, 39, 40, 41, 42, 43, 44, 45, 46, 47, 48, 49, 50, 51, 52, 53, 54, 55, 56, 57, 58, 59, 60, 61, 62, 63, 64, 65, 66, 67, 68, 69, 70, 71, 72, 73] (σ := Nat) (fun k => k ≤ z.chs.length ∧ (List.range k).all (okC z) = true) (fun k => [(4, I k), (3, I (if k = 0 then z.base else (z.chs.getD (k - 1) default).2))]) (fun _ => _) (fun k => z.chs.length - k) 0 ⟨Nat.zero_le _, rfl⟩ Qy (List.Sublist.refl _) ?_
 conv => whnf
 rintro k ⟨i1, i2⟩
 have hp : 0 < k → _ := fun h => okC_at (i := k - 1) i2 (by omega)
 have ho : -840 ≤ (if k = 0 then z.base else (z.chs.getD (k - 1) default).2) ∧ (if k = 0 then z.base else (z.chs.getD (k - 1) default).2) ≤ 840 := by
  split
  ·omega
  ·have := hp (by omega); omega
 generalize hof : (if k = 0 then z.base else (z.chs.getD (k - 1) default).2) = off at *
 by_cases hk : k < z.chs.length
 ·have hno : okC z k = false → validZ z = false := fun h => by
   rw [validZ, all_no (k := k) (d := 0) (by simpa using hk) (by rw [List.getD, List.getElem?_range hk]; exact h), Bool.and_false]
  have hok : okC z k = (decide (0 ≤ (z.chs.getD k default).1 ∧ (z.chs.getD k default).1 ≤ 52595999) && (decide (k = 0) || decide (2880 ≤ (z.chs.getD k default).1 - (z.chs.getD (k - 1) default).1)) &&
    decide (-840 ≤ (z.chs.getD k default).2 ∧ (z.chs.getD k default).2 ≤ 840) && decide ((z.chs.getD k default).2 - off ≤ 60 ∧ off - (z.chs.getD k default).2 ≤ 60)) := by
   unfold okC; rw [hof]
  have e1 : ((k : Int) - 1).toNat = k - 1 := by omega
  have hp2 : 0 < k → 0 ≤ (z.chs.getD ((k : Int) - 1).toNat default).1 ∧ (z.chs.getD ((k : Int) - 1).toNat default).1 ≤ 52595999 := fun h => by rw [e1]; have := hp h; omega
  have c1 := e3Instant_ok (z.chs.getD k default).1
  have c2 := e3apart_ok (z.chs.getD k default).2 off
  have hw : (-840 ≤ (z.chs.getD k default).2 ∧ (z.chs.getD k default).2 ≤ 840) → IntKind.i64.wrap ((z.chs.getD k default).2 - off) = (z.chs.getD k default).2 - off ∧ IntKind.i64.wrap (off - (z.chs.getD k default).2) = off - (z.chs.getD k default).2 := fun h => ⟨wrap_id (by omega), wrap_id (by omega)⟩
  repeat' ((conv => whnf) <;> (first | refine zM ?_ | refine zW ?_ | intro _ | exact zF | refine Fin.pure ?_ | refine Br.tt ?_ | refine Br.ff ?_ | (refine Br.mk (fun h => ?_) (fun h => ?_) <;> (try simp only [sh] at h) <;> try first | (exfalso; omega) | exact absurd trivial h | (simp at h; done)) | refine zA ?_ | refine zN ?_ | refine zO ?_ | refine zP ?_ | refine zB ?_ | refine zQ ?_ | refine Quo.t Qw ?_ | refine zR ?_ | refine Rem.t Qw ?_ | refine zL ent63 c1 ?_ | refine zG ent63 (fun h => c1) ?_ | refine zL ent64 c2 ?_ | refine zG ent64 (fun h => c2) ?_ | refine lB ?_ | refine lBA ?_ | refine zK ?_ | refine s1 ?_ | refine sA ?_ | refine zC ?_ | fail))
  ·refine congrArg B (hno ?_).symm
   rw [hok, ← Bool.not_eq_true]
   simp only [Bool.and_eq_true, Bool.or_eq_true, decide_eq_true_eq]
   intro hh
   have := hw hh.1.2
   omega
  ·(conv => whnf); (refine Nxt.of (k + 1) [2, 3, 4, 5, 22, 23, 24, 25, 26, 27, 28, 29, 30, 31, 32, 33, 34, 35, 36, 37, 38, 39, 40, 41, 42, 43, 44, 45, 46, 47, 48, 49, 50, 51, 52, 53, 54, 55, 56, 57, 58, 59, 60, 61, 62, 63, 64, 65, 66, 67, 68, 69, 70, 71, 72, 73] Qr Qr Qr ?_ ?_ Qy Qs <;> (try dsimp only) <;> (try omega))
   refine ⟨by omega, ?_⟩
   rw [List.range_succ, List.all_append, i2]
   simp only [List.all_cons, List.all_nil, Bool.and_true, Bool.true_and]
   rw [hok]
   simp only [Bool.and_eq_true, Bool.or_eq_true, decide_eq_true_eq]
   have := hw (by omega)
   omega
 ·repeat' ((conv => whnf) <;> (first | refine zM ?_ | refine zW ?_ | intro _ | exact zF | refine Fin.pure ?_ | refine Br.tt ?_ | refine Br.ff ?_ | (refine Br.mk (fun h => ?_) (fun h => ?_) <;> (try simp only [sh] at h) <;> try first | (exfalso; omega) | exact absurd trivial h | (simp at h; done)) | refine zA ?_ | refine zN ?_ | refine zO ?_ | refine zP ?_ | refine zB ?_ | refine zQ ?_ | refine Quo.t Qw ?_ | refine zR ?_ | refine Rem.t Qw ?_ | refine lB ?_ | refine lBA ?_ | refine zK ?_ | refine s1 ?_ | refine sA ?_ | refine zC ?_ | fail))
  refine congrArg B ?_
  have e : k = z.chs.length := by omega
  rw [e] at i2
  rw [validZ, i2, decide_eq_true (by omega), decide_eq_true (by omega)]; rfl
theorem offA_drop {off t : Int} : ∀ {cs : List (Int × Int)} {k : Nat}, k < cs.length → offA off (cs.drop k) t = if (cs.getD k default).1 ≤ t then offA (cs.getD k default).2 (cs.drop (k + 1)) t else off
 | cs, k, h => by
  rw [List.drop_eq_getElem_cons h, offA, getD_at h]
theorem e3offset_ok (z : Zo) (t : Int) (hlen : z.chs.length ≤ 1000) : FnA Tryz.prog 115 [.agg (zcs z), I t] (I (offA z.base z.chs t)) := by
 have hl : (z.chs.map chav).length = z.chs.length := by simp
 refine fn_run (T := tab) Tryz.func115 rfl Tryz.ntmps115 rfl Tryz.results115 (fun _ => ?_)
 repeat' ((conv => whnf) <;> (first | refine zM ?_ | refine zW ?_ | intro _ | exact zF | refine Fin.pure ?_ | refine Br.tt ?_ | refine Br.ff ?_ | (refine Br.mk (fun h => ?_) (fun h => ?_) <;> (try simp only [sh] at h) <;> try first | (exfalso; omega) | exact absurd trivial h | (simp at h; done)) | refine zA ?_ | refine zN ?_ | refine zO ?_ | refine zP ?_ | refine zB ?_ | refine zQ ?_ | refine Quo.t Qw ?_ | refine zR ?_ | refine Rem.t Qw ?_ | refine lB ?_ | refine lBA ?_ | refine zK ?_ | refine s1 ?_ | refine sA ?_ | refine zC ?_ | fail))
 (conv => whnf); refine CK.loop [5, 6, 9, 10, 11, 12, 13, 14, 15, 16, 17, 18, 19, 20, 21, 22, 23, 24, 25, 26, 27, 28, 29, 30, 31] (σ := Nat × Int) (fun s => s.1 ≤ z.chs.length ∧ offA z.base z.chs t = offA s.2 (z.chs.drop s.1) t) (fun ⟨i, o⟩ => [(6, I i), (5, I o)]) (fun _ => _) (fun s => z.chs.length - s.1) (0, z.base) ⟨Nat.zero_le _, rfl⟩ Qy (List.Sublist.refl _) ?_
 conv => whnf
 rintro ⟨i, o⟩ ⟨i1, i2⟩
 simp only at i1 i2
 by_cases hi : i < z.chs.length
 ·rw [offA_drop hi] at i2
  repeat' ((conv => whnf) <;> (first | refine zM ?_ | refine zW ?_ | intro _ | exact zF | refine Br.tt ?_ | refine Br.ff ?_ | (refine Br.mk (fun h => ?_) (fun h => ?_) <;> (try simp only [sh] at h) <;> try first | (exfalso; omega) | exact absurd trivial h | (simp at h; done)) | refine zA ?_ | refine zN ?_ | refine zO ?_ | refine zP ?_ | refine zB ?_ | refine zQ ?_ | refine Quo.t Qw ?_ | refine zR ?_ | refine Rem.t Qw ?_ | refine lB ?_ | refine lBA ?_ | refine zK ?_ | refine s1 ?_ | refine sA ?_ | refine zC ?_ | fail))
  ·(conv => whnf); (refine Nxt.of ((i + 1, (z.chs.getD i default).2)) [5, 6, 9, 10, 11, 12, 13, 14, 15, 16, 17, 18, 19, 20, 21, 22, 23, 24, 25, 26, 27, 28, 29, 30, 31] Qr Qr Qr ?_ ?_ Qy Qs <;> (try dsimp only) <;> (try omega))
  ·conv => whnf
   refine Fin.pure ?_
   rw [i2, if_neg (by omega)]
 ·rw [List.drop_eq_nil_of_le (by omega)] at i2
  repeat' ((conv => whnf) <;> (first | refine zM ?_ | refine zW ?_ | intro _ | exact zF | refine Fin.pure ?_ | refine Br.tt ?_ | refine Br.ff ?_ | (refine Br.mk (fun h => ?_) (fun h => ?_) <;> (try simp only [sh] at h) <;> try first | (exfalso; omega) | exact absurd trivial h | (simp at h; done)) | refine zA ?_ | refine zN ?_ | refine zO ?_ | refine zP ?_ | refine zB ?_ | refine zQ ?_ | refine Quo.t Qw ?_ | refine zR ?_ | refine Rem.t Qw ?_ | refine lB ?_ | refine lBA ?_ | refine zK ?_ | refine s1 ?_ | refine sA ?_ | refine zC ?_ | fail))
  rw [i2]; rfl
theorem e3local_ok (z : Zo) (t : Int) (hlen : z.chs.length ≤ 1000) (ho : okOff z) (ht : 0 ≤ t ∧ t ≤ 60000000) : FnA Tryz.prog 87 [.agg (zcs z), I t] (.tup [I (locD z t), I (locM z t)]) := by
 have c1 := e3offset_ok z t hlen
 have hb := offA_bd (t := t) ho.1 ho.2
 unfold locD locM
 generalize offA z.base z.chs t = o at *
 refine fn_run (T := tab) Tryz.func87 rfl Tryz.ntmps87 rfl Tryz.results87 (fun _ => ?_)
 repeat' ((conv => whnf) <;> (first | refine zM ?_ | refine zW ?_ | intro _ | exact zF | refine Br.tt ?_ | refine Br.ff ?_ | (refine Br.mk (fun h => ?_) (fun h => ?_) <;> (try simp only [sh] at h) <;> try first | (exfalso; omega) | exact absurd trivial h | (simp at h; done)) | refine zA ?_ | refine zN ?_ | refine zO ?_ | refine zP ?_ | refine zB ?_ | refine zQ ?_ | refine Quo.t Qw ?_ | refine zR ?_ | refine Rem.t Qw ?_ | refine zL ent115 c1 ?_ | refine zG ent115 (fun h => c1) ?_ | refine lB ?_ | refine lBA ?_ | refine zK ?_ | refine s1 ?_ | refine sA ?_ | refine zC ?_ | fail))
 conv => whnf
 refine Fin.pure ?_
 rw [show (t + o) / 1440 = -1 by omega, show (t + o) % 1440 = t + o + 1440 by omega]
theorem set_P (l : List (Int × Int)) (k : Nat) (x : Int) : (l.map ptav).set k ((ptav (l.getD k default)).setCell 1 (I x)) = (l.set k ((l.getD k default).1, x)).map ptav := by
 rw [List.map_set]; rfl
set_option maxHeartbeats 4000000 in
theorem e3count_ok {c : Ctx} {L : List Ent} {v : Value} (l : List (Int × Int)) (day : Int) (ho : l.Pairwise fun a b => a.1 < b.1) (hl : l.length ≤ 1000000) (hb : ∀ q ∈ l, 0 ≤ q.2 ∧ q.2 ≤ 1000000) :
  FnL Tryz.prog c 89 [.v v, I day] (.row v 188 2 0 false (l.map ptav) :: L) fun r L' => ∃ v', r = .v v' ∧ L' = .row v' 188 2 0 false ((incZ day l).map ptav) :: L := by
 have hll : (l.map ptav).length = l.length := by simp
 refine fnL_run (T := tab) Tryz.func89 rfl Tryz.ntmps89 rfl Tryz.results89 (fun _ hw0 => ?_)
 repeat' ((conv => whnf) <;> (first | refine zM ?_ | refine zW ?_ | intro _ | exact zF | refine Br.tt ?_ | refine Br.ff ?_ | (refine Br.mk (fun h => ?_) (fun h => ?_) <;> (try simp only [sh] at h) <;> try first | (exfalso; omega) | exact absurd trivial h | (simp at h; done)) | refine zA ?_ | refine zN ?_ | refine zO ?_ | refine zP ?_ | refine zB ?_ | refine zQ ?_ | refine Quo.t Qw ?_ | refine zR ?_ | refine Rem.t Qw ?_ | refine lB ?_ | refine lBA ?_ | refine lM ?_ | refine lM0 ?_ | refine lMA ?_ | refine sM ?_ | refine nR ?_ | refine iR ?_ | refine lR ?_ | refine lR0 ?_ | refine lRA ?_ | refine zK ?_ | refine s1 ?_ | refine sA ?_ | refine LK.bsl rfl rfl rfl rfl ?_ | (refine LK.frzR 0 rfl ?_ <;> refine pF ?_) | refine pA ?_ | refine sR ?_ | refine zC ?_ | fail))
 (conv => whnf); refine CK.loopK [5, 8, 9, 10, 11, 12, 13, 14, 15, 16, 17, 18, 19, 20, 21] (σ := Int) (fun k => 0 ≤ k ∧ k ≤ l.length ∧ ∀ p ∈ l.drop k.toNat, day ≤ p.1) (fun k => [(5, I k)]) (fun _ => [.row v 188 2 0 false (l.map ptav)]) _ (fun k => k.toNat) ((l.map ptav).length : Int) ⟨by omega, by omega, by rw [Int.toNat_natCast, hll]; simp⟩ Qy Qs ?_
 conv => whnf
 rintro k ⟨i0, i1, i2⟩
 have fin : (k = 0 ∨ (l.getD (k - 1).toNat default).1 < day) → incZ day l = if k.toNat < l.length ∧ (l.getD k.toNat default).1 = day then l.set k.toNat (day, (l.getD k.toNat default).2 + 1) else l.take k.toNat ++ (day, 1) :: l.drop k.toNat := fun h => incZ_at (by omega) (fun p hp => by
  obtain ⟨j, hj, rfl⟩ := List.mem_iff_getElem.1 hp
  rw [List.length_take] at hj
  rw [List.getElem_take]
  rcases h with h | h
  ·omega
  ·rw [getD_at (show (k - 1).toNat < l.length by omega)] at h
   by_cases e : j = (k - 1).toNat
   ·subst e; exact h
   ·have := List.pairwise_iff_getElem.1 ho j (k - 1).toNat (by omega) (by omega) (by omega)
    omega) i2
 have step : 0 < k → day ≤ (l.getD (k - 1).toNat default).1 → ∀ p ∈ l.drop (k - 1).toNat, day ≤ p.1 := fun h0 h p hp => by
  rw [List.drop_eq_getElem_cons (show (k - 1).toNat < l.length by omega), ← getD_at (show (k - 1).toNat < l.length by omega), show (k - 1).toNat + 1 = k.toNat by omega] at hp
  rcases List.mem_cons.1 hp with rfl | hp
  ·exact h
  ·exact i2 p hp
 have hlt : ((l.map ptav).take k.toNat).length ≤ 1000000 := by simp; omega
 have hld : ((l.map ptav).drop k.toNat).length ≤ 1000000 := by simp; omega
 by_cases hk : k < l.length
 ·have hbk := hb _ (getD_mem (l := l) (k := k.toNat) (by omega))
  have hset := set_P l k.toNat ((l.getD k.toNat default).2 + 1)
  repeat' ((conv => whnf) <;> (first | refine zM ?_ | refine zW ?_ | intro _ | exact zF | refine Br.tt ?_ | refine Br.ff ?_ | (refine Br.mk (fun h => ?_) (fun h => ?_) <;> (try simp only [sh] at h) <;> try first | (exfalso; omega) | exact absurd trivial h | (simp at h; done)) | refine zA ?_ | refine zN ?_ | refine zO ?_ | refine zP ?_ | refine zB ?_ | refine zQ ?_ | refine Quo.t Qw ?_ | refine zR ?_ | refine Rem.t Qw ?_ | refine lB ?_ | refine lBA ?_ | refine lM ?_ | refine lM0 ?_ | refine lMA ?_ | refine sM ?_ | refine nR ?_ | refine iR ?_ | refine lR ?_ | refine lR0 ?_ | refine lRA ?_ | refine zK ?_ | refine s1 ?_ | refine sA ?_ | refine LK.bsl rfl rfl rfl rfl ?_ | (refine LK.frzR 0 rfl ?_ <;> refine pF ?_) | refine pA ?_ | refine sR ?_ | refine zC ?_ | fail))
  ·conv => whnf
   (conv => whnf); (refine Nxt.of (k - 1) [5, 8, 9, 10, 11, 12, 13, 14, 15, 16, 17, 18, 19, 20, 21] Qr Qr Qr ?_ ?_ Qy Qs <;> (try dsimp only) <;> (try omega))
   exact ⟨by omega, by omega, step (by omega) (by omega)⟩
  ·conv => whnf
   rw [fin (by omega), if_pos ⟨by omega, by omega⟩]
   rw [hset, show (l.getD k.toNat default).1 = day by omega]
   exact .out _ (List.Sublist.refl _) ⟨_, rfl, rfl⟩
  ·conv => whnf
   refine CK.frzR1 0 rfl ?_
   refine CK.seeR 0 0 rfl rfl ?_
   repeat' ((conv => whnf) <;> (first | refine CK.anyK (id := 7) [1, 2, 3, 5, 6, 7, 9, 10, 11] [0, 4, 8, 12, 13] _ (List.Sublist.refl _) Qk ?_ | refine zM ?_ | refine zW ?_ | intro _ | exact zF | refine Br.tt ?_ | refine Br.ff ?_ | (refine Br.mk (fun h => ?_) (fun h => ?_) <;> (try simp only [sh] at h) <;> try first | (exfalso; omega) | exact absurd trivial h | (simp at h; done)) | refine zA ?_ | refine zN ?_ | refine zO ?_ | refine zP ?_ | refine zB ?_ | refine zQ ?_ | refine Quo.t Qw ?_ | refine zR ?_ | refine Rem.t Qw ?_ | refine lB ?_ | refine lBA ?_ | refine zK ?_ | refine s1 ?_ | refine sA ?_ | refine LK.gr (Gr.bslV rfl rfl rfl rfl) ?_ | refine Ask.of (Gr.bslV rfl rfl rfl rfl) ?_ | refine Kx.nil ?_ | refine Kx.stp rfl rfl Qs ?_ | refine kA ?_ | (refine Kx.frzR 0 rfl ?_ <;> refine kF ?_) | refine kP ?_ | refine k1 ?_ | refine kB ?_ | refine kL ?_ | refine zC ?_ | refine zD ?_ | fail))
   rw [fin (by omega), if_neg (by omega)]
   conv => whnf
   exact .out _ (.cons_cons _ (.cons _ (.refl _))) ⟨_, rfl, by simp [ptav]⟩
 ·repeat' ((conv => whnf) <;> (first | refine zM ?_ | refine zW ?_ | intro _ | exact zF | refine Br.tt ?_ | refine Br.ff ?_ | (refine Br.mk (fun h => ?_) (fun h => ?_) <;> (try simp only [sh] at h) <;> try first | (exfalso; omega) | exact absurd trivial h | (simp at h; done)) | refine zA ?_ | refine zN ?_ | refine zO ?_ | refine zP ?_ | refine zB ?_ | refine zQ ?_ | refine Quo.t Qw ?_ | refine zR ?_ | refine Rem.t Qw ?_ | refine lB ?_ | refine lBA ?_ | refine lM ?_ | refine lM0 ?_ | refine lMA ?_ | refine sM ?_ | refine nR ?_ | refine iR ?_ | refine lR ?_ | refine lR0 ?_ | refine lRA ?_ | refine zK ?_ | refine s1 ?_ | refine sA ?_ | refine LK.bsl rfl rfl rfl rfl ?_ | (refine LK.frzR 0 rfl ?_ <;> refine pF ?_) | refine pA ?_ | refine sR ?_ | refine zC ?_ | fail))
  ·conv => whnf
   (conv => whnf); (refine Nxt.of (k - 1) [5, 8, 9, 10, 11, 12, 13, 14, 15, 16, 17, 18, 19, 20, 21] Qr Qr Qr ?_ ?_ Qy Qs <;> (try dsimp only) <;> (try omega))
   exact ⟨by omega, by omega, step (by omega) (by omega)⟩
  ·conv => whnf
   refine CK.frzR1 0 rfl ?_
   refine CK.seeR 0 0 rfl rfl ?_
   repeat' ((conv => whnf) <;> (first | refine CK.anyK (id := 7) [1, 2, 3, 5, 6, 7, 9, 10, 11] [0, 4, 8, 12, 13] _ (List.Sublist.refl _) Qk ?_ | refine zM ?_ | refine zW ?_ | intro _ | exact zF | refine Br.tt ?_ | refine Br.ff ?_ | (refine Br.mk (fun h => ?_) (fun h => ?_) <;> (try simp only [sh] at h) <;> try first | (exfalso; omega) | exact absurd trivial h | (simp at h; done)) | refine zA ?_ | refine zN ?_ | refine zO ?_ | refine zP ?_ | refine zB ?_ | refine zQ ?_ | refine Quo.t Qw ?_ | refine zR ?_ | refine Rem.t Qw ?_ | refine lB ?_ | refine lBA ?_ | refine zK ?_ | refine s1 ?_ | refine sA ?_ | refine LK.gr (Gr.bslV rfl rfl rfl rfl) ?_ | refine Ask.of (Gr.bslV rfl rfl rfl rfl) ?_ | refine Kx.nil ?_ | refine Kx.stp rfl rfl Qs ?_ | refine kA ?_ | (refine Kx.frzR 0 rfl ?_ <;> refine kF ?_) | refine kP ?_ | refine k1 ?_ | refine kB ?_ | refine kL ?_ | refine zC ?_ | refine zD ?_ | fail))
   rw [fin (by omega), if_neg (by omega)]
   conv => whnf
   exact .out _ (.cons_cons _ (.cons _ (.refl _))) ⟨_, rfl, by simp [ptav]⟩
theorem okOff_of {z : Zo} (hz : validZ z = true) : okOff z ∧ z.chs.length ≤ 64 := by
 unfold validZ at hz
 simp only [Bool.and_eq_true, decide_eq_true_eq] at hz
 refine ⟨⟨hz.1.2, fun c hc => ?_⟩, hz.1.1⟩
 obtain ⟨i, hi, rfl⟩ := List.mem_iff_getElem.1 hc
 have := okC_at hz.2 hi
 simp only [List.getD, List.getElem?_eq_getElem hi, Option.getD_some] at this
 omega
set_option maxHeartbeats 4000000 in
theorem e3Split_ok (z : Zo) (a b : Int) (hz : validZ z = true) (hab : 0 ≤ a ∧ a ≤ b ∧ b ≤ 52596000 ∧ b - a ≤ 44640) :
  FnA Tryz.prog 68 [.agg (zcs z), I a, I b] (.tup [.sl 2 ((if splitOk z a b then splitZ z a b else []).map ptav), I (if splitOk z a b then 0 else 21)]) := by
 obtain ⟨ho, h64⟩ := okOff_of hz
 have c1 := e3Valid_ok z (by omega)
 have c2 := e3Stretch_ok a b
 rw [hz] at c1
 refine fn_run (T := tab) Tryz.func68 rfl Tryz.ntmps68 rfl Tryz.results68 (fun _ => ?_)
 repeat' ((conv => whnf) <;> (first | refine zM ?_ | refine zW ?_ | intro _ | exact zF | refine Br.tt ?_ | refine Br.ff ?_ | (refine Br.mk (fun h => ?_) (fun h => ?_) <;> (try simp only [sh] at h) <;> try first | (exfalso; omega) | exact absurd trivial h | (simp at h; done)) | refine zA ?_ | refine zN ?_ | refine zO ?_ | refine zP ?_ | refine zB ?_ | refine zQ ?_ | refine Quo.t Qw ?_ | refine zR ?_ | refine Rem.t Qw ?_ | refine zL ent44 c1 ?_ | refine zG ent44 (fun h => c1) ?_ | refine zL ent86 c2 ?_ | refine zG ent86 (fun h => c2) ?_ | refine lB ?_ | refine lBA ?_ | refine zK ?_ | refine s1 ?_ | refine sA ?_ | refine zC ?_ | fail))
 refine CK.nilrow 188 2 ?_
 (conv => whnf); refine CK.loopK [6, 7, 8, 9, 10, 11, 26, 27, 28, 29, 30, 31, 32, 33, 34, 35, 36, 37, 38, 39, 40, 41, 42] (σ := Int × Value) (fun s => a ≤ s.1 ∧ s.1 ≤ b ∧ ∀ x, a ≤ x → x < s.1 → okDay (locD z x) = true) (fun ⟨t, v⟩ => [(9, I t), (8, .v v)]) (fun ⟨t, v⟩ => [.row v 188 2 0 false ((splitZ z a t).map ptav)]) _ (fun s => (b - s.1).toNat) (a, .slice none 0 0) ⟨Int.le_refl _, hab.2.1, fun x h1 h2 => by omega⟩ Qy (by dsimp only; rw [split_nil z ho]; exact Qs) ?_
 conv => whnf
 rintro ⟨t, v⟩ ⟨i1, i2, i3⟩
 simp only at i1 i2 i3
 by_cases ht : t < b
 ·have c3 := e3local_ok z t (by omega) ho (by omega)
  have c4 := e3Day_ok (locD z t)
  have hl := split_len ho i1
  have hq : ∀ q ∈ splitZ z a t, 0 ≤ q.2 ∧ q.2 ≤ 1000000 := fun q hq => by
   have h1 := (split_mem ho i1).1 hq
   have h2 := cnt_bd (fun t => decide (locD z t = q.1)) i1
   omega
  have c5 := fun c L => e3count_ok (c := c) (L := L) (v := v) (splitZ z a t) (locD z t) (prt_ord _ _ _) (by omega) hq
  rw [← split_step ho i1] at c5
  by_cases hd : okDay (locD z t) = true
  ·rw [hd] at c4
   repeat' ((conv => whnf) <;> (first | refine zM ?_ | refine zW ?_ | intro _ | exact zF | refine Br.tt ?_ | refine Br.ff ?_ | (refine Br.mk (fun h => ?_) (fun h => ?_) <;> (try simp only [sh] at h) <;> try first | (exfalso; omega) | exact absurd trivial h | (simp at h; done)) | refine zA ?_ | refine zN ?_ | refine zO ?_ | refine zP ?_ | refine zB ?_ | refine zQ ?_ | refine Quo.t Qw ?_ | refine zR ?_ | refine Rem.t Qw ?_ | refine zL ent87 c3 ?_ | refine zG ent87 (fun h => c3) ?_ | refine zL ent88 c4 ?_ | refine zG ent88 (fun h => c4) ?_ | (refine LK.callL ent89 (c5 _ _) rfl rfl Ql (fun _ _ hcall => ?_) <;> obtain ⟨v', rfl, rfl⟩ := hcall) | refine lB ?_ | refine lBA ?_ | refine zK ?_ | refine s1 ?_ | refine sA ?_ | refine zC ?_ | fail))
   (conv => whnf); (refine Nxt.of ((t + 1, v')) [6, 7, 8, 9, 10, 11, 26, 27, 28, 29, 30, 31, 32, 33, 34, 35, 36, 37, 38, 39, 40, 41, 42] Qr Qr Qr ?_ ?_ Qy Qs <;> (try dsimp only) <;> (try omega))
   refine ⟨by omega, by omega, fun x h1 h2 => ?_⟩
   by_cases e : x = t
   ·subst e; exact hd
   ·exact i3 x h1 (by omega)
  ·have hno : splitOk z a b = false := by
    rw [← Bool.not_eq_true, splitOk_iff ho hab.2.1]
    exact fun h => hd (h t i1 ht)
   rw [Bool.not_eq_true] at hd
   rw [hd] at c4
   rw [hno]
   repeat' ((conv => whnf) <;> (first | refine zM ?_ | refine zW ?_ | intro _ | exact zF | refine Br.tt ?_ | refine Br.ff ?_ | (refine Br.mk (fun h => ?_) (fun h => ?_) <;> (try simp only [sh] at h) <;> try first | (exfalso; omega) | exact absurd trivial h | (simp at h; done)) | refine zA ?_ | refine zN ?_ | refine zO ?_ | refine zP ?_ | refine zB ?_ | refine zQ ?_ | refine Quo.t Qw ?_ | refine zR ?_ | refine Rem.t Qw ?_ | refine zL ent87 c3 ?_ | refine zG ent87 (fun h => c3) ?_ | refine zL ent88 c4 ?_ | refine zG ent88 (fun h => c4) ?_ | refine lB ?_ | refine lBA ?_ | refine zK ?_ | refine s1 ?_ | refine sA ?_ | refine zC ?_ | fail))
   conv => whnf
   exact Fin.seeP Qz
 ·obtain rfl : t = b := by omega
  have hyes : splitOk z a t = true := (splitOk_iff ho i1).2 i3
  rw [hyes]
  repeat' ((conv => whnf) <;> (first | refine zM ?_ | refine zW ?_ | intro _ | exact zF | refine Br.tt ?_ | refine Br.ff ?_ | (refine Br.mk (fun h => ?_) (fun h => ?_) <;> (try simp only [sh] at h) <;> try first | (exfalso; omega) | exact absurd trivial h | (simp at h; done)) | refine zA ?_ | refine zN ?_ | refine zO ?_ | refine zP ?_ | refine zB ?_ | refine zQ ?_ | refine Quo.t Qw ?_ | refine zR ?_ | refine Rem.t Qw ?_ | refine lB ?_ | refine lBA ?_ | refine zK ?_ | refine s1 ?_ | refine sA ?_ | refine zC ?_ | fail))
  conv => whnf
  refine Fin.frzR 0 rfl ?_
  exact Fin.seeP Qz
theorem e4Proper_ok (s : Sp) : FnA Tryz.prog 90 [spav s] (B (prp s)) := by
 refine fn_run (T := tab) Tryz.func90 rfl Tryz.ntmps90 rfl Tryz.results90 (fun _ => ?_)
 repeat' ((conv => whnf) <;> (first | refine zM ?_ | refine zW ?_ | intro _ | exact zF | refine Fin.pure ?_ | refine Br.tt ?_ | refine Br.ff ?_ | (refine Br.mk (fun h => ?_) (fun h => ?_) <;> (try simp only [sh] at h) <;> try first | (exfalso; omega) | exact absurd trivial h | (simp at h; done)) | refine zA ?_ | refine zN ?_ | refine zO ?_ | refine zP ?_ | refine zB ?_ | refine zQ ?_ | refine Quo.t Qw ?_ | refine zR ?_ | refine Rem.t Qw ?_ | refine lB ?_ | refine lBA ?_ | refine zK ?_ | refine s1 ?_ | refine sA ?_ | refine zC ?_ | fail))
theorem VF_at {lb : Int} : ∀ {l : List Sp}, VF lb l ↔ ∀ i, i < l.length → (l.getD i default).1 < (l.getD i default).2 ∧ (if i = 0 then lb else (l.getD (i - 1) default).2) < (l.getD i default).1
 | [] => by simp [VF]
 | s :: l => by
  rw [VF, VF_at (l := l)]
  constructor
  ·rintro ⟨h1, h2, h3⟩ i hi
   cases i with
   | zero => exact ⟨by simpa using h2, by simpa using h1⟩
   | succ i =>
    have := h3 i (by simpa using hi)
    refine ⟨by simpa using this.1, ?_⟩
    rw [if_neg (by omega)]
    cases i with
    | zero => simpa using this.2
    | succ i => simpa using this.2
  ·intro h
   have h0 := h 0 (by simp)
   refine ⟨by simpa using h0.2, by simpa using h0.1, fun i hi => ?_⟩
   have h1 := h (i + 1) (by simpa using hi)
   refine ⟨by simpa using h1.1, ?_⟩
   have h2 := h1.2
   rw [if_neg (by omega)] at h2
   cases i with
   | zero => simpa using h2
   | succ i => simpa using h2
def okS (l : List Sp) (i : Nat) : Prop := prp (l.getD i default) = true ∧ (i = 0 ∨ (l.getD (i - 1) default).2 < (l.getD i default).1)
theorem validS_iff {l : List Sp} : validS l = true ↔ ∀ i, i < l.length → okS l i := by
 unfold validS
 rw [decide_eq_true_eq]
 obtain ⟨h1, h2⟩ := nrm_spec l
 constructor
 ·intro h
  rw [h] at h1 h2
  have h3 := VF_at.1 h1
  intro i hi
  have h4 := h3 i hi
  have hlow : ∀ j, j < l.length → -1152921504606846976 ≤ (l.getD j default).1 := fun j hj => by
   induction j with
   | zero => have := (h3 0 hj).2; simp only [if_true] at this; omega
   | succ j ih =>
    have a := ih (by omega)
    have b := h3 (j + 1) hj
    have c := (h3 j (by omega)).1
    rw [if_neg (by omega)] at b
    have d := b.2
    simp only [Nat.add_sub_cancel] at d
    omega
  have hup : (l.getD i default).2 ≤ 1152921504606846976 := by
   obtain ⟨t, ht, h5, h6⟩ := (h2 ((l.getD i default).2 - 1)).1 ⟨_, getD_mem hi, by omega, by omega⟩
   have h7 := (List.mem_filter.1 ht).2
   unfold prp at h7
   simp only [Bool.and_eq_true, decide_eq_true_eq] at h7
   omega
  refine ⟨?_, ?_⟩
  ·have := hlow i hi
   unfold prp
   simp only [Bool.and_eq_true, decide_eq_true_eq]
   omega
  ·by_cases e : i = 0
   ·exact .inl e
   ·have := h4.2
    rw [if_neg e] at this
    exact .inr this
 ·intro h
  have hp : ∀ i, i < l.length → -1152921504606846976 ≤ (l.getD i default).1 ∧ (l.getD i default).1 < (l.getD i default).2 := fun i hi => by
   have := (h i hi).1
   unfold prp at this
   simp only [Bool.and_eq_true, decide_eq_true_eq] at this
   omega
  have hv : VF (-1152921504606846977) l := VF_at.2 fun i hi => by
   have a := hp i hi
   refine ⟨a.2, ?_⟩
   split
   ·omega
   ·rename_i e
    exact (h i hi).2.resolve_left e
  have hf : l.filter prp = l := List.filter_eq_self.2 fun s hs => by
   obtain ⟨i, hi, rfl⟩ := List.mem_iff_getElem.1 hs
   have := (h i hi).1
   rwa [getD_at hi] at this
  exact (nrm_uniq hv fun x => by rw [hf]).symm
theorem e4Valid_ok (l : List Sp) (hl : l.length ≤ 1000000000) : FnA Tryz.prog 69 [.sl 2 (l.map spav)] (B (validS l)) := by
 have hll : (l.map spav).length = l.length := by simp
 refine fn_run (T := tab) Tryz.func69 rfl Tryz.ntmps69 rfl Tryz.results69 (fun _ => ?_)
 repeat' ((conv => whnf) <;> (first | refine zM ?_ | refine zW ?_ | intro _ | exact zF | refine Fin.pure ?_ | refine Br.tt ?_ | refine Br.ff ?_ | (refine Br.mk (fun h => ?_) (fun h => ?_) <;> (try simp only [sh] at h) <;> try first | (exfalso; omega) | exact absurd trivial h | (simp at h; done)) | refine zA ?_ | refine zN ?_ | refine zO ?_ | refine zP ?_ | refine zB ?_ | refine zQ ?_ | refine Quo.t Qw ?_ | refine zR ?_ | refine Rem.t Qw ?_ | refine lB ?_ | refine lBA ?_ | refine zK ?_ | refine s1 ?_ | refine sA ?_ | refine zC ?_ | fail))
 (conv => whnf); refine CK.loop [2, 3, 4, 5, 6, 7, 8, 9, 10, 11, 12, 13, 14, 15, 16, 17, 18, 19, 20, 21, 22, 23, 24, 25, 26, 27, 28, 29, 30, 31, 32, 33] (σ := Nat) (fun k => k ≤ l.length ∧ ∀ i, i < k → okS l i) (fun k => [(3, I k)]) (fun _ => []) (fun k => l.length - k) 0 ⟨Nat.zero_le _, fun i h => by omega⟩ Qy (List.nil_sublist _) ?_
 conv => whnf
 rintro k ⟨i1, i2⟩
 by_cases hk : k < l.length
 ·have c1 := e4Proper_ok (l.getD k default)
  have hno : ¬ okS l k → (AV.v (.bool false)) = B (validS l) := fun h => congrArg B (Bool.eq_false_iff.2 fun e => h (validS_iff.1 e k hk)).symm
  repeat' ((conv => whnf) <;> (first | refine zM ?_ | refine zW ?_ | intro _ | exact zF | refine Br.tt ?_ | refine Br.ff ?_ | (refine Br.mk (fun h => ?_) (fun h => ?_) <;> (try simp only [sh] at h) <;> try first | (exfalso; omega) | exact absurd trivial h | (simp at h; done)) | refine zA ?_ | refine zN ?_ | refine zO ?_ | refine zP ?_ | refine zB ?_ | refine zQ ?_ | refine Quo.t Qw ?_ | refine zR ?_ | refine Rem.t Qw ?_ | refine zL ent90 c1 ?_ | refine zG ent90 (fun h => c1) ?_ | refine lB ?_ | refine lBA ?_ | refine zK ?_ | refine s1 ?_ | refine sA ?_ | refine zC ?_ | fail))
  ·conv => whnf
   refine Fin.pure (hno fun e => ?_)
   rcases h with h | h
   ·rw [e.1] at h; cases h
   ·have := e.2; omega
  ·(conv => whnf); (refine Nxt.of (k + 1) [2, 3, 4, 5, 6, 7, 8, 9, 10, 11, 12, 13, 14, 15, 16, 17, 18, 19, 20, 21, 22, 23, 24, 25, 26, 27, 28, 29, 30, 31, 32, 33] Qr Qr Qr ?_ ?_ Qy Qs <;> (try dsimp only) <;> (try omega))
   refine ⟨hk, fun i hi => ?_⟩
   by_cases e : i = k
   ·subst e
    exact ⟨h.1, by omega⟩
   ·exact i2 i (by omega)
 ·repeat' ((conv => whnf) <;> (first | refine zM ?_ | refine zW ?_ | intro _ | exact zF | refine Br.tt ?_ | refine Br.ff ?_ | (refine Br.mk (fun h => ?_) (fun h => ?_) <;> (try simp only [sh] at h) <;> try first | (exfalso; omega) | exact absurd trivial h | (simp at h; done)) | refine zA ?_ | refine zN ?_ | refine zO ?_ | refine zP ?_ | refine zB ?_ | refine zQ ?_ | refine Quo.t Qw ?_ | refine zR ?_ | refine Rem.t Qw ?_ | refine lB ?_ | refine lBA ?_ | refine zK ?_ | refine s1 ?_ | refine sA ?_ | refine zC ?_ | fail))
  conv => whnf
  exact Fin.pure (congrArg B (validS_iff.2 fun i hi => i2 i (by omega)).symm)
theorem e7Valid_ok (d : Du) : FnA Tryz.prog 67 [duav d] (B (duB d)) := by
 refine fn_run (T := tab) Tryz.func67 rfl Tryz.ntmps67 rfl Tryz.results67 (fun _ => ?_)
 repeat' ((conv => whnf) <;> (first | refine zM ?_ | refine zW ?_ | intro _ | exact zF | refine Fin.pure ?_ | refine Br.tt ?_ | refine Br.ff ?_ | (refine Br.mk (fun h => ?_) (fun h => ?_) <;> (try simp only [sh] at h) <;> try first | (exfalso; omega) | exact absurd trivial h | (simp at h; done)) | refine zA ?_ | refine zN ?_ | refine zO ?_ | refine zP ?_ | refine zB ?_ | refine zQ ?_ | refine Quo.t Qw ?_ | refine zR ?_ | refine Rem.t Qw ?_ | refine lB ?_ | refine lBA ?_ | refine zK ?_ | refine s1 ?_ | refine sA ?_ | refine zC ?_ | fail))
 all_goals (refine congrArg B ?_; unfold duB; rw [Bool.eq_iff_iff]; simp only [Bool.and_eq_true, decide_eq_true_eq, Bool.false_eq_true, false_iff]; omega)
set_option maxHeartbeats 4000000 in
theorem e7Minutes_ok (p : Pl) (d : Du) (hz : validZ p.zone = true) : FnA Tryz.prog 46 [.agg (zcs p.zone), duav d] (.tup [.sl 2 ((if dutyOk p d then minsD p d else []).map ptav), I (if dutyOk p d then 0 else if duB d then 21 else 171)]) := by
 have c1 := e7Valid_ok d
 by_cases hv : duB d = true
 ·have hb := duB_bd hv
  have c2 := e3Split_ok p.zone d.frm d.to_ hz (by omega)
  have e : dutyOk p d = splitOk p.zone d.frm d.to_ := by rw [dutyOk, hv, Bool.true_and]
  rw [hv] at c1
  rw [e, hv]
  refine fn_run (T := tab) Tryz.func46 rfl Tryz.ntmps46 rfl Tryz.results46 (fun _ => ?_)
  repeat' ((conv => whnf) <;> (first | refine zM ?_ | refine zW ?_ | intro _ | exact zF | refine Br.tt ?_ | refine Br.ff ?_ | (refine Br.mk (fun h => ?_) (fun h => ?_) <;> (try simp only [sh] at h) <;> try first | (exfalso; omega) | exact absurd trivial h | (simp at h; done)) | refine zA ?_ | refine zN ?_ | refine zO ?_ | refine zP ?_ | refine zB ?_ | refine zQ ?_ | refine Quo.t Qw ?_ | refine zR ?_ | refine Rem.t Qw ?_ | refine zL ent67 c1 ?_ | refine zG ent67 (fun h => c1) ?_ | refine zL ent68 c2 ?_ | refine zG ent68 (fun h => c2) ?_ | refine lB ?_ | refine lBA ?_ | refine zK ?_ | refine s1 ?_ | refine sA ?_ | refine zC ?_ | fail))
  all_goals skip
 ·have hv2 := Bool.eq_false_iff.2 hv
  have e : dutyOk p d = false := by rw [dutyOk, hv2, Bool.false_and]
  rw [hv2] at c1
  rw [e, hv2]
  refine fn_run (T := tab) Tryz.func46 rfl Tryz.ntmps46 rfl Tryz.results46 (fun _ => ?_)
  repeat' ((conv => whnf) <;> (first | refine zM ?_ | refine zW ?_ | intro _ | exact zF | refine Br.tt ?_ | refine Br.ff ?_ | (refine Br.mk (fun h => ?_) (fun h => ?_) <;> (try simp only [sh] at h) <;> try first | (exfalso; omega) | exact absurd trivial h | (simp at h; done)) | refine zA ?_ | refine zN ?_ | refine zO ?_ | refine zP ?_ | refine zB ?_ | refine zQ ?_ | refine Quo.t Qw ?_ | refine zR ?_ | refine Rem.t Qw ?_ | refine zL ent67 c1 ?_ | refine zG ent67 (fun h => c1) ?_ | refine lB ?_ | refine lBA ?_ | refine zK ?_ | refine s1 ?_ | refine sA ?_ | refine zC ?_ | fail))
  conv => whnf
  exact Fin.seeP Qz
theorem v8within_ok (n lo hi : Int) : FnA Tryz.prog 65 [I n, I lo, I hi] (B (decide (lo ≤ n ∧ n ≤ hi))) := by
 refine fn_run (T := tab) Tryz.func65 rfl Tryz.ntmps65 rfl Tryz.results65 (fun _ => ?_)
 repeat' ((conv => whnf) <;> (first | refine zM ?_ | refine zW ?_ | intro _ | exact zF | refine Fin.pure ?_ | refine Br.tt ?_ | refine Br.ff ?_ | (refine Br.mk (fun h => ?_) (fun h => ?_) <;> (try simp only [sh] at h) <;> try first | (exfalso; omega) | exact absurd trivial h | (simp at h; done)) | refine zA ?_ | refine zN ?_ | refine zO ?_ | refine zP ?_ | refine zB ?_ | refine zQ ?_ | refine Quo.t Qw ?_ | refine zR ?_ | refine Rem.t Qw ?_ | refine zK ?_ | refine zC ?_ | fail))
 all_goals (refine congrArg B ?_; rw [Bool.eq_iff_iff]; simp only [Bool.and_eq_true, decide_eq_true_eq])
theorem v8limits_ok (l : Li) : FnA Tryz.prog 45 [.agg [I l.rest, I l.week, I l.night.1, I l.night.2, I l.minor]] (B (limOk l)) := by
 have c1 := v8within_ok l.rest 0 10080
 have c2 := v8within_ok l.week 0 20000
 have c3 := v8within_ok l.minor 0 1500
 have c4 := e3Frame_ok l.night
 refine fn_run (T := tab) Tryz.func45 rfl Tryz.ntmps45 rfl Tryz.results45 (fun _ => ?_)
 repeat' ((conv => whnf) <;> (first | refine zM ?_ | refine zW ?_ | intro _ | exact zF | refine Fin.pure ?_ | refine Br.tt ?_ | refine Br.ff ?_ | (refine Br.mk (fun h => ?_) (fun h => ?_) <;> (try simp only [sh] at h) <;> try first | (exfalso; omega) | exact absurd trivial h | (simp at h; done)) | refine zA ?_ | refine zN ?_ | refine zO ?_ | refine zP ?_ | refine zB ?_ | refine zQ ?_ | refine Quo.t Qw ?_ | refine zR ?_ | refine Rem.t Qw ?_ | refine zL ent65 c1 ?_ | refine zG ent65 (fun h => c1) ?_ | refine zL ent65 c2 ?_ | refine zG ent65 (fun h => c2) ?_ | refine zL ent65 c3 ?_ | refine zG ent65 (fun h => c3) ?_ | refine zL ent66 c4 ?_ | refine zG ent66 (fun h => c4) ?_ | refine lB ?_ | refine lBA ?_ | refine zK ?_ | refine s1 ?_ | refine sA ?_ | refine zC ?_ | fail))
 refine congrArg B ?_
 unfold limOk inB
 simp only [Bool.and_assoc]
theorem v8worker_ok (w : Wk) (hl : w.away.length ≤ 1000) : FnA Tryz.prog 47 [wkav w] (B (wkOk w)) := by
 have c1 := v8within_ok w.skill 0 65535
 have c2 := v8within_ok w.wage 0 1000000
 have c3 := e4Valid_ok w.away (by omega)
 have hla : (w.away.map spav).length = w.away.length := by simp
 have hno : ¬ wkOk w = true → (AV.v (.bool false)) = B (wkOk w) := fun h => congrArg B (Bool.eq_false_iff.2 h).symm
 refine fn_run (T := tab) Tryz.func47 rfl Tryz.ntmps47 rfl Tryz.results47 (fun _ => ?_)
 repeat' ((conv => whnf) <;> (first | refine zM ?_ | refine zW ?_ | intro _ | exact zF | refine Br.tt ?_ | refine Br.ff ?_ | (refine Br.mk (fun h => ?_) (fun h => ?_) <;> (try simp only [sh] at h) <;> try first | (exfalso; omega) | exact absurd trivial h | (simp at h; done)) | refine zA ?_ | refine zN ?_ | refine zO ?_ | refine zP ?_ | refine zB ?_ | refine zQ ?_ | refine Quo.t Qw ?_ | refine zR ?_ | refine Rem.t Qw ?_ | refine zL ent65 c1 ?_ | refine zG ent65 (fun h => c1) ?_ | refine zL ent65 c2 ?_ | refine zG ent65 (fun h => c2) ?_ | refine zL ent69 c3 ?_ | refine zG ent69 (fun h => c3) ?_ | refine lB ?_ | refine lBA ?_ | refine zK ?_ | refine s1 ?_ | refine sA ?_ | refine zC ?_ | fail))
 ·conv => whnf
  refine Fin.pure (hno fun e => ?_)
  have := wkOk_iff.1 e
  unfold inB at this
  simp only [decide_eq_true_eq] at this
  rcases h with ((h | h) | h) | h
  ·omega
  ·omega
  ·omega
  ·rw [this.2.2.2.1] at h; cases h
 have h0 := h
 (conv => whnf); refine CK.loop [2, 3, 26, 27, 28, 29, 30, 31, 32, 33, 34, 35, 36, 37, 38, 39, 40, 41, 42, 43, 44, 45, 46, 47, 48] (σ := Nat) (fun j => j ≤ w.away.length ∧ (w.away.take j).all awOk = true) (fun j => [(3, I j)]) (fun _ => _) (fun j => w.away.length - j) 0 ⟨Nat.zero_le _, rfl⟩ Qy (List.Sublist.refl _) ?_
 conv => whnf
 rintro j ⟨m1, m2⟩
 by_cases hj : j < w.away.length
 ·repeat' ((conv => whnf) <;> (first | refine zM ?_ | refine zW ?_ | intro _ | exact zF | refine Br.tt ?_ | refine Br.ff ?_ | (refine Br.mk (fun h => ?_) (fun h => ?_) <;> (try simp only [sh] at h) <;> try first | (exfalso; omega) | exact absurd trivial h | (simp at h; done)) | refine zA ?_ | refine zN ?_ | refine zO ?_ | refine zP ?_ | refine zB ?_ | refine zQ ?_ | refine Quo.t Qw ?_ | refine zR ?_ | refine Rem.t Qw ?_ | refine lB ?_ | refine lBA ?_ | refine zK ?_ | refine s1 ?_ | refine sA ?_ | refine zC ?_ | fail))
  ·conv => whnf
   refine Fin.pure (hno fun e => ?_)
   have := List.all_eq_true.1 (wkOk_iff.1 e).2.2.2.2 _ (getD_mem hj)
   unfold awOk at this
   simp only [Bool.and_eq_true, decide_eq_true_eq] at this
   omega
  ·(conv => whnf); (refine Nxt.of (j + 1) [2, 3, 26, 27, 28, 29, 30, 31, 32, 33, 34, 35, 36, 37, 38, 39, 40, 41, 42, 43, 44, 45, 46, 47, 48] Qr Qr Qr ?_ ?_ Qy Qs <;> (try dsimp only) <;> (try omega))
   refine ⟨hj, all_take m2 hj ?_⟩
   unfold awOk
   simp only [Bool.and_eq_true, decide_eq_true_eq]
   omega
 ·repeat' ((conv => whnf) <;> (first | refine zM ?_ | refine zW ?_ | intro _ | exact zF | refine Br.tt ?_ | refine Br.ff ?_ | (refine Br.mk (fun h => ?_) (fun h => ?_) <;> (try simp only [sh] at h) <;> try first | (exfalso; omega) | exact absurd trivial h | (simp at h; done)) | refine zA ?_ | refine zN ?_ | refine zO ?_ | refine zP ?_ | refine zB ?_ | refine zQ ?_ | refine Quo.t Qw ?_ | refine zR ?_ | refine Rem.t Qw ?_ | refine lB ?_ | refine lBA ?_ | refine zK ?_ | refine s1 ?_ | refine sA ?_ | refine zC ?_ | fail))
  conv => whnf
  rw [List.take_of_length_le (by omega)] at m2
  refine Fin.pure (congrArg B (wkOk_iff.2 ⟨?_, ?_, by omega, h0.2, m2⟩).symm)
  ·unfold inB; rw [decide_eq_true_eq]; omega
  ·unfold inB; rw [decide_eq_true_eq]; omega
set_option maxRecDepth 4000 in
set_option maxHeartbeats 4000000 in
theorem v8Valid_ok (p : Pl) (hs : Small p) : FnA Tryz.prog 24 [.agg (pcs p)] (B (validP p)) := by
 have c1 := e3Valid_ok p.zone (by have := hs.ch; omega)
 have c2 := v8limits_ok p.lim
 have hld : (p.duties.map duav).length = p.duties.length := by simp
 have hlw : (p.workers.map wkav).length = p.workers.length := by simp
 have hsd := hs.du
 have hsw := hs.wk
 refine fn_run (T := tab) Tryz.func24 rfl Tryz.ntmps24 rfl Tryz.results24 (fun _ => ?_)
 repeat' ((conv => whnf) <;> (first | refine zM ?_ | refine zW ?_ | intro _ | exact zF | refine Br.tt ?_ | refine Br.ff ?_ | (refine Br.mk (fun h => ?_) (fun h => ?_) <;> (try simp only [sh] at h) <;> try first | (exfalso; omega) | exact absurd trivial h | (simp at h; done)) | refine zA ?_ | refine zN ?_ | refine zO ?_ | refine zP ?_ | refine zB ?_ | refine zQ ?_ | refine Quo.t Qw ?_ | refine zR ?_ | refine Rem.t Qw ?_ | refine zL ent44 c1 ?_ | refine zG ent44 (fun h => c1) ?_ | refine zL ent45 c2 ?_ | refine zG ent45 (fun h => c2) ?_ | refine lB ?_ | refine lBA ?_ | refine zK ?_ | refine s1 ?_ | refine sA ?_ | refine zC ?_ | fail))
 ·conv => whnf
  refine Fin.pure (noP fun hp => ?_)
  have := validP_iff.1 hp
  rcases h with ((h | h) | h) | h
  ·rw [this.1] at h; cases h
  ·omega
  ·omega
  ·rw [this.2.2.2.2.2] at h; cases h
 have h0 := h
 have c3 := fun d => e7Minutes_ok p d h0.1.1.1
 (conv => whnf); refine CK.loop [2, 3, 4, 5, 29, 30, 31, 32, 33, 34, 35, 36, 37, 38, 39, 40, 41, 42, 43, 44, 45, 46, 47, 48] (σ := Nat) (fun k => k ≤ p.duties.length ∧ (p.duties.take k).all (dutyOk p) = true) (fun k => [(3, I k)]) (fun _ => _) (fun k => p.duties.length - k) 0 ⟨Nat.zero_le _, rfl⟩ Qy (List.Sublist.refl _) ?_
 conv => whnf
 rintro k ⟨i1, i2⟩
 by_cases hk : k < p.duties.length
 ·have c4 := c3 (p.duties.getD k default)
  repeat' ((conv => whnf) <;> (first | refine zM ?_ | refine zW ?_ | intro _ | exact zF | refine Br.tt ?_ | refine Br.ff ?_ | (refine Br.mk (fun h => ?_) (fun h => ?_) <;> (try simp only [sh] at h) <;> try first | (exfalso; omega) | exact absurd trivial h | (simp at h; done)) | refine zA ?_ | refine zN ?_ | refine zO ?_ | refine zP ?_ | refine zB ?_ | refine zQ ?_ | refine Quo.t Qw ?_ | refine zR ?_ | refine Rem.t Qw ?_ | refine zL ent46 c4 ?_ | refine zG ent46 (fun h => c4) ?_ | refine lB ?_ | refine lBA ?_ | refine zK ?_ | refine s1 ?_ | refine sA ?_ | refine zC ?_ | fail))
  ·conv => whnf
   refine Fin.pure (noP fun hp => h ?_)
   rw [if_pos (List.all_eq_true.1 (validP_iff.1 hp).2.2.2.1 _ (getD_mem hk))]
  ·(conv => whnf); (refine Nxt.of (k + 1) [2, 3, 4, 5, 29, 30, 31, 32, 33, 34, 35, 36, 37, 38, 39, 40, 41, 42, 43, 44, 45, 46, 47, 48] Qr Qr Qr ?_ ?_ Qy Qs <;> (try dsimp only) <;> (try omega))
   refine ⟨hk, all_take i2 hk ?_⟩
   by_cases hq : dutyOk p (p.duties.getD k default) = true
   ·exact hq
   ·rw [if_neg hq] at h
    split at h <;> cases h
 have e : p.duties.take k = p.duties := List.take_of_length_le (by omega)
 rw [e] at i2
 repeat' ((conv => whnf) <;> (first | refine zM ?_ | refine zW ?_ | intro _ | exact zF | refine Br.tt ?_ | refine Br.ff ?_ | (refine Br.mk (fun h => ?_) (fun h => ?_) <;> (try simp only [sh] at h) <;> try first | (exfalso; omega) | exact absurd trivial h | (simp at h; done)) | refine zA ?_ | refine zN ?_ | refine zO ?_ | refine zP ?_ | refine zB ?_ | refine zQ ?_ | refine Quo.t Qw ?_ | refine zR ?_ | refine Rem.t Qw ?_ | refine lB ?_ | refine lBA ?_ | refine zK ?_ | refine s1 ?_ | refine sA ?_ | refine zC ?_ | fail))
 (conv => whnf); refine CK.loop [2, 6, 49, 50, 51, 52, 53, 54, 55, 56, 57, 58, 59, 60, 61, 62] (σ := Nat) (fun k => k ≤ p.workers.length ∧ (p.workers.take k).all wkOk = true) (fun k => [(6, I k)]) (fun _ => _) (fun k => p.workers.length - k) 0 ⟨Nat.zero_le _, rfl⟩ Qy (List.Sublist.refl _) ?_
 conv => whnf
 rintro k2 ⟨j1, j2⟩
 by_cases hk2 : k2 < p.workers.length
 ·have hw := hs.aw (p.workers.getD k2 default) (getD_mem hk2)
  have c5 := v8worker_ok (p.workers.getD k2 default) hw
  repeat' ((conv => whnf) <;> (first | refine zM ?_ | refine zW ?_ | intro _ | exact zF | refine Br.tt ?_ | refine Br.ff ?_ | (refine Br.mk (fun h => ?_) (fun h => ?_) <;> (try simp only [sh] at h) <;> try first | (exfalso; omega) | exact absurd trivial h | (simp at h; done)) | refine zA ?_ | refine zN ?_ | refine zO ?_ | refine zP ?_ | refine zB ?_ | refine zQ ?_ | refine Quo.t Qw ?_ | refine zR ?_ | refine Rem.t Qw ?_ | refine zL ent47 c5 ?_ | refine zG ent47 (fun h => c5) ?_ | refine lB ?_ | refine lBA ?_ | refine zK ?_ | refine s1 ?_ | refine sA ?_ | refine zC ?_ | fail))
  ·conv => whnf
   refine Fin.pure (noP fun hp => ?_)
   have := List.all_eq_true.1 (validP_iff.1 hp).2.2.2.2.1 _ (getD_mem hk2)
   rw [this] at h; cases h
  ·(conv => whnf); (refine Nxt.of (k2 + 1) [2, 6, 49, 50, 51, 52, 53, 54, 55, 56, 57, 58, 59, 60, 61, 62] Qr Qr Qr ?_ ?_ Qy Qs <;> (try dsimp only) <;> (try omega))
   exact ⟨hk2, all_take j2 hk2 h⟩
 ·have e : p.workers.take k2 = p.workers := List.take_of_length_le (by omega)
  rw [e] at j2
  repeat' ((conv => whnf) <;> (first | refine zM ?_ | refine zW ?_ | intro _ | exact zF | refine Br.tt ?_ | refine Br.ff ?_ | (refine Br.mk (fun h => ?_) (fun h => ?_) <;> (try simp only [sh] at h) <;> try first | (exfalso; omega) | exact absurd trivial h | (simp at h; done)) | refine zA ?_ | refine zN ?_ | refine zO ?_ | refine zP ?_ | refine zB ?_ | refine zQ ?_ | refine Quo.t Qw ?_ | refine zR ?_ | refine Rem.t Qw ?_ | refine lB ?_ | refine lBA ?_ | refine zK ?_ | refine s1 ?_ | refine sA ?_ | refine zC ?_ | fail))
  conv => whnf
  exact Fin.pure (congrArg B (validP_iff.2 ⟨h0.1.1.1, by omega, by omega, i2, j2, h0.2⟩).symm)
theorem v8Roster_ok (p : Pl) (ro : List Int) (hs : Small p) (hr : ro.length ≤ 1000000) : FnA Tryz.prog 83 [.agg (pcs p), .sl 1 (ro.map I)] (B (isRo p ro)) := by
 have hld : (p.duties.map duav).length = p.duties.length := by simp
 have hlw : (p.workers.map wkav).length = p.workers.length := by simp
 have hlr : (ro.map I).length = ro.length := by simp
 have hsd := hs.du
 have hsw := hs.wk
 have hno : ¬ isRo p ro = true → (AV.v (.bool false)) = B (isRo p ro) := fun h => congrArg B (Bool.eq_false_iff.2 h).symm
 refine fn_run (T := tab) Tryz.func83 rfl Tryz.ntmps83 rfl Tryz.results83 (fun _ => ?_)
 repeat' ((conv => whnf) <;> (first | refine zM ?_ | refine zW ?_ | intro _ | exact zF | refine Br.tt ?_ | refine Br.ff ?_ | (refine Br.mk (fun h => ?_) (fun h => ?_) <;> (try simp only [sh] at h) <;> try first | (exfalso; omega) | exact absurd trivial h | (simp at h; done)) | refine zA ?_ | refine zN ?_ | refine zO ?_ | refine zP ?_ | refine zB ?_ | refine zQ ?_ | refine Quo.t Qw ?_ | refine zR ?_ | refine Rem.t Qw ?_ | refine lB ?_ | refine lBA ?_ | refine zK ?_ | refine s1 ?_ | refine sA ?_ | refine zC ?_ | fail))
 (conv => whnf); refine CK.loop [4, 5, 6, 7, 8, 9, 10, 11, 12, 13, 14, 15, 16, 17, 18, 19, 20, 21, 22, 23, 24, 25, 26] (σ := Nat) (fun k => k ≤ ro.length ∧ ∀ w ∈ ro.take k, -1 ≤ w ∧ w < p.workers.length) (fun k => [(5, I k)]) (fun _ => _) (fun k => ro.length - k) 0 ⟨Nat.zero_le _, by simp⟩ Qy (List.Sublist.refl _) ?_
 conv => whnf
 rintro k ⟨i1, i2⟩
 by_cases hk : k < ro.length
 ·repeat' ((conv => whnf) <;> (first | refine zM ?_ | refine zW ?_ | intro _ | exact zF | refine Br.tt ?_ | refine Br.ff ?_ | (refine Br.mk (fun h => ?_) (fun h => ?_) <;> (try simp only [sh] at h) <;> try first | (exfalso; omega) | exact absurd trivial h | (simp at h; done)) | refine zA ?_ | refine zN ?_ | refine zO ?_ | refine zP ?_ | refine zB ?_ | refine zQ ?_ | refine Quo.t Qw ?_ | refine zR ?_ | refine Rem.t Qw ?_ | refine lB ?_ | refine lBA ?_ | refine zK ?_ | refine s1 ?_ | refine sA ?_ | refine zC ?_ | fail))
  ·conv => whnf
   exact Fin.pure (hno fun hp => by have := (isRo_iff.1 hp).2 _ (getD_mem hk); omega)
  ·(conv => whnf); (refine Nxt.of (k + 1) [4, 5, 6, 7, 8, 9, 10, 11, 12, 13, 14, 15, 16, 17, 18, 19, 20, 21, 22, 23, 24, 25, 26] Qr Qr Qr ?_ ?_ Qy Qs <;> (try dsimp only) <;> (try omega))
   refine ⟨hk, fun w hw => ?_⟩
   rw [List.take_succ_eq_append_getElem hk, List.mem_append, ← getD_at hk, List.mem_singleton] at hw
   rcases hw with hw | hw
   ·exact i2 w hw
   ·subst hw; omega
 ·repeat' ((conv => whnf) <;> (first | refine zM ?_ | refine zW ?_ | intro _ | exact zF | refine Br.tt ?_ | refine Br.ff ?_ | (refine Br.mk (fun h => ?_) (fun h => ?_) <;> (try simp only [sh] at h) <;> try first | (exfalso; omega) | exact absurd trivial h | (simp at h; done)) | refine zA ?_ | refine zN ?_ | refine zO ?_ | refine zP ?_ | refine zB ?_ | refine zQ ?_ | refine Quo.t Qw ?_ | refine zR ?_ | refine Rem.t Qw ?_ | refine lB ?_ | refine lBA ?_ | refine zK ?_ | refine s1 ?_ | refine sA ?_ | refine zC ?_ | fail))
  conv => whnf
  rw [List.take_of_length_le (by omega)] at i2
  refine Fin.pure (congrArg B ?_)
  rw [Bool.eq_iff_iff, isRo_iff, decide_eq_true_eq]
  exact ⟨fun h => ⟨by omega, i2⟩, fun h => by omega⟩
end Go.Proofs.YtjfnkmlnbaianaaGreat
