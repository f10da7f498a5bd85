/-
  Walks: the references of chapters 3, 4 and 17 (zone, spans, shifts).
  Conditions: those of each theorem.
-/
import Derived.Test.YthjllgabmgkocaaGreatRV
import Derived.Test.YthjllgabmgkocaaGreatE5E
import Derived.Test.YthjllgabmgkocaaGreatZE
namespace Go.Proofs.YthjllgabmgkocaaGreat
open Go.E2 Go.Wage
theorem e3Instant_ok (t : Int) : FnA Tryz.prog 59 [I t] (B (decide (0 ≤ t ∧ t ≤ 52595999))) := by
  refine fn_run (T := tab) Tryz.func59 rfl Tryz.ntmps59 rfl Tryz.results59 (fun _ => ?_)
  repeat' ((conv => whnf) <;> (first | refine Must.mk (fun h => h) ?_ | refine Must.mk (fun _ => rfl) ?_ | refine Must.mk Qw ?_ | refine MW.ok Qw ?_ | intro _ | exact Fin.pure rfl | refine Fin.pure ?_ | refine Br.tt ?_ | refine Br.ff ?_ | (refine Br.mk (fun h => ?_) (fun h => ?_) <;> (try simp only [sh] at h) <;> (try first | (exfalso; omega) | exact absurd trivial h | (exfalso; simp at h; done))) | refine Ix.at ‹_› Qw ?_ | refine Ix.mapN Qw ?_ | refine Ix.mapN1 Qw ?_ | refine Ix.map Qw ?_ | refine Ix.at Qi Qw ?_ | refine Quo.nn Qw ?_ | refine Quo.t Qw ?_ | refine Rem.nn Qw ?_ | refine Rem.t Qw ?_ | refine LK.askW rfl ?_ | refine CK.any false Qk ?_ | fail))
  all_goals (refine congrArg B ?_; rw [Bool.eq_iff_iff]; simp only [Bool.and_eq_true, decide_eq_true_eq])
theorem e3Day_ok (t : Int) : FnA Tryz.prog 87 [I t] (B (okDay t)) := by
  refine fn_run (T := tab) Tryz.func87 rfl Tryz.ntmps87 rfl Tryz.results87 (fun _ => ?_)
  repeat' ((conv => whnf) <;> (first | refine Must.mk (fun h => h) ?_ | refine Must.mk (fun _ => rfl) ?_ | refine Must.mk Qw ?_ | refine MW.ok Qw ?_ | intro _ | exact Fin.pure rfl | refine Fin.pure ?_ | refine Br.tt ?_ | refine Br.ff ?_ | (refine Br.mk (fun h => ?_) (fun h => ?_) <;> (try simp only [sh] at h) <;> (try first | (exfalso; omega) | exact absurd trivial h | (exfalso; simp at h; done))) | refine Ix.at ‹_› Qw ?_ | refine Ix.mapN Qw ?_ | refine Ix.mapN1 Qw ?_ | refine Ix.map Qw ?_ | refine Ix.at Qi Qw ?_ | refine Quo.nn Qw ?_ | refine Quo.t Qw ?_ | refine Rem.nn Qw ?_ | refine Rem.t Qw ?_ | refine LK.askW rfl ?_ | refine CK.any false Qk ?_ | fail))
  all_goals (refine congrArg B ?_; unfold okDay; rw [Bool.eq_iff_iff]; simp only [Bool.and_eq_true, decide_eq_true_eq])
theorem e3apart_ok (a b : Int) : FnA Tryz.prog 60 [I a, I b] (I (max (IntKind.i64.wrap (a - b)) (IntKind.i64.wrap (b - a)))) := by
  refine fn_run (T := tab) Tryz.func60 rfl Tryz.ntmps60 rfl Tryz.results60 (fun _ => ?_)
  repeat' ((conv => whnf) <;> (first | refine Must.mk (fun h => h) ?_ | refine Must.mk (fun _ => rfl) ?_ | refine Must.mk Qw ?_ | refine MW.ok Qw ?_ | refine MW.wr ?_ | intro _ | exact Fin.pure rfl | refine Fin.pure ?_ | refine Br.tt ?_ | refine Br.ff ?_ | (refine Br.mk (fun h => ?_) (fun h => ?_) <;> (try simp only [sh] at h) <;> (try first | (exfalso; omega) | exact absurd trivial h | (exfalso; simp at h; done))) | refine Ix.at ‹_› Qw ?_ | refine Ix.mapN Qw ?_ | refine Ix.mapN1 Qw ?_ | refine Ix.map Qw ?_ | refine Ix.at Qi Qw ?_ | refine Quo.nn Qw ?_ | refine Quo.t Qw ?_ | refine Rem.nn Qw ?_ | refine Rem.t Qw ?_ | refine LK.askW rfl ?_ | refine CK.any false Qk ?_ | fail))
theorem wrap_id {x : Int} (h : -9223372036854775808 ≤ x ∧ x ≤ 9223372036854775807) : IntKind.i64.wrap x = x := by
  simp [IntKind.wrap, IntKind.bits, IntKind.signed]
  omega
theorem e3Stretch_ok (a b : Int) : FnA Tryz.prog 85 [I a, I b] (B (decide (0 ≤ a ∧ a ≤ b ∧ b ≤ 52596000))) := by
  refine fn_run (T := tab) Tryz.func85 rfl Tryz.ntmps85 rfl Tryz.results85 (fun _ => ?_)
  repeat' ((conv => whnf) <;> (first | refine Must.mk (fun h => h) ?_ | refine Must.mk (fun _ => rfl) ?_ | refine Must.mk Qw ?_ | refine MW.ok Qw ?_ | intro _ | exact Fin.pure rfl | refine Fin.pure ?_ | refine Br.tt ?_ | refine Br.ff ?_ | (refine Br.mk (fun h => ?_) (fun h => ?_) <;> (try simp only [sh] at h) <;> (try first | (exfalso; omega) | exact absurd trivial h | (exfalso; simp at h; done))) | refine Ix.at ‹_› Qw ?_ | refine Ix.mapN Qw ?_ | refine Ix.mapN1 Qw ?_ | refine Ix.map Qw ?_ | refine Ix.at Qi Qw ?_ | refine Quo.nn Qw ?_ | refine Quo.t Qw ?_ | refine Rem.nn Qw ?_ | refine Rem.t Qw ?_ | refine LK.askW rfl ?_ | refine CK.any false Qk ?_ | fail))
  all_goals (refine congrArg B ?_; rw [Bool.eq_iff_iff]; simp only [Bool.and_eq_true, decide_eq_true_eq]; omega)
theorem e3Frame_ok (w : Sp) : FnA Tryz.prog 62 [spav w] (B (inB w.1 1440 && inB w.2 1440)) := by
  refine fn_run (T := tab) Tryz.func62 rfl Tryz.ntmps62 rfl Tryz.results62 (fun _ => ?_)
  repeat' ((conv => whnf) <;> (first | refine Must.mk (fun h => h) ?_ | refine Must.mk (fun _ => rfl) ?_ | refine Must.mk Qw ?_ | refine MW.ok Qw ?_ | intro _ | exact Fin.pure rfl | refine Fin.pure ?_ | refine Br.tt ?_ | refine Br.ff ?_ | (refine Br.mk (fun h => ?_) (fun h => ?_) <;> (try simp only [sh] at h) <;> (try first | (exfalso; omega) | exact absurd trivial h | (exfalso; simp at h; done))) | refine Ix.at ‹_› Qw ?_ | refine Ix.mapN Qw ?_ | refine Ix.mapN1 Qw ?_ | refine Ix.map Qw ?_ | refine Ix.at Qi Qw ?_ | refine Quo.nn Qw ?_ | refine Quo.t Qw ?_ | refine Rem.nn Qw ?_ | refine Rem.t Qw ?_ | refine lB (T := tab) ?_ | refine lBA (T := tab) ?_ | refine LK.askW rfl ?_ | refine s1 ?_ | refine sA ?_ | refine CK.any false Qk ?_ | fail))
  all_goals (refine congrArg B ?_; unfold inB; rw [Bool.eq_iff_iff]; simp only [Bool.and_eq_true, decide_eq_true_eq]; omega)
theorem e3In_ok (w : Sp) (m : Int) : FnA Tryz.prog 164 [spav w, I m] (B (inW w m)) := by
  refine fn_run (T := tab) Tryz.func164 rfl Tryz.ntmps164 rfl Tryz.results164 (fun _ => ?_)
  repeat' ((conv => whnf) <;> (first | refine Must.mk (fun h => h) ?_ | refine Must.mk (fun _ => rfl) ?_ | refine Must.mk Qw ?_ | refine MW.ok Qw ?_ | intro _ | exact Fin.pure rfl | refine Fin.pure ?_ | refine Br.tt ?_ | refine Br.ff ?_ | (refine Br.mk (fun h => ?_) (fun h => ?_) <;> (try simp only [sh] at h) <;> (try first | (exfalso; omega) | exact absurd trivial h | (exfalso; simp at h; done))) | refine Ix.at ‹_› Qw ?_ | refine Ix.mapN Qw ?_ | refine Ix.mapN1 Qw ?_ | refine Ix.map Qw ?_ | refine Ix.at Qi Qw ?_ | refine Quo.nn Qw ?_ | refine Quo.t Qw ?_ | refine Rem.nn Qw ?_ | refine Rem.t Qw ?_ | refine lB (T := tab) ?_ | refine lBA (T := tab) ?_ | refine LK.askW rfl ?_ | refine s1 ?_ | refine sA ?_ | refine CK.any false Qk ?_ | fail))
  · unfold inW
    rw [if_pos (by omega)]
  · unfold inW
    rw [if_neg (by omega)]
set_option maxHeartbeats 4000000 in
theorem e3Valid_ok (z : Zo) (hlen : z.chs.length ≤ 9223372036854775807) : FnA Tryz.prog 24 [.agg (zcs z)] (B (validZ z)) := by
  have hl : (z.chs.map chav).length = z.chs.length := by simp
  refine fn_run (T := tab) Tryz.func24 rfl Tryz.ntmps24 rfl Tryz.results24 (fun _ => ?_)
  repeat' ((conv => whnf) <;> (first | refine Must.mk (fun h => h) ?_ | refine Must.mk (fun _ => rfl) ?_ | refine Must.mk Qw ?_ | refine MW.ok Qw ?_ | intro _ | exact Fin.pure rfl | refine Fin.pure ?_ | refine Br.tt ?_ | refine Br.ff ?_ | (refine Br.mk (fun h => ?_) (fun h => ?_) <;> (try simp only [sh] at h) <;> (try first | (exfalso; omega) | exact absurd trivial h | (exfalso; simp at h; done))) | refine Ix.at ‹_› Qw ?_ | refine Ix.mapN Qw ?_ | refine Ix.mapN1 Qw ?_ | refine Ix.map Qw ?_ | refine Ix.at Qi Qw ?_ | refine Quo.nn Qw ?_ | refine Quo.t Qw ?_ | refine Rem.nn Qw ?_ | refine Rem.t Qw ?_ | refine lB (T := tab) ?_ | refine lBA (T := tab) ?_ | refine LK.askW rfl ?_ | refine s1 ?_ | refine sA ?_ | refine CK.any false Qk ?_ | fail))
  · refine congrArg B ?_
    symm
    rw [← Bool.not_eq_true, validZ]
    simp only [Bool.and_eq_true, decide_eq_true_eq]
    omega
  have h0 := h
  (conv => whnf); refine CK.loop [2, 3, 4, 5, 22, 23, 24, 25, 26, 27, 28, 29, 30, 31, 32, 33, 34, 35, 36, 37, 38, 39, 40, 41, 42, 43, 44, 45, 46, 47, 48, 49, 50, 51, 52, 53, 54, 55, 56, 57, 58, 59, 60, 61, 62, 63, 64, 65, 66, 67, 68, 69, 70, 71, 72, 73] (σ := Nat) (fun k => k ≤ z.chs.length ∧ (List.range k).all (okC z) = true) (fun k => [(4, I k), (3, I (if k = 0 then z.base else (z.chs.getD (k - 1) default).2))]) (fun _ => _) (fun k => z.chs.length - k) 0 ⟨Nat.zero_le _, rfl⟩ Qy (List.Sublist.refl _) ?_
  conv => whnf
  rintro k ⟨i1, i2⟩
  have hp : 0 < k → _ := fun h => okC_at (i := k - 1) i2 (by omega)
  have ho : -840 ≤ (if k = 0 then z.base else (z.chs.getD (k - 1) default).2) ∧ (if k = 0 then z.base else (z.chs.getD (k - 1) default).2) ≤ 840 := by
    split
    · omega
    · have := hp (by omega); omega
  generalize hof : (if k = 0 then z.base else (z.chs.getD (k - 1) default).2) = off at *
  by_cases hk : k < z.chs.length
  · have hno : okC z k = false → validZ z = false := fun h => by
      rw [validZ, all_no (k := k) (d := 0) (by simpa using hk) (by rw [List.getD, List.getElem?_range hk]; exact h), Bool.and_false]
    have hok : okC z k = (decide (0 ≤ (z.chs.getD k default).1 ∧ (z.chs.getD k default).1 ≤ 52595999) && (decide (k = 0) || decide (2880 ≤ (z.chs.getD k default).1 - (z.chs.getD (k - 1) default).1)) &&
        decide (-840 ≤ (z.chs.getD k default).2 ∧ (z.chs.getD k default).2 ≤ 840) && decide ((z.chs.getD k default).2 - off ≤ 60 ∧ off - (z.chs.getD k default).2 ≤ 60)) := by
      unfold okC; rw [hof]
    have e1 : ((k : Int) - 1).toNat = k - 1 := by omega
    have hp2 : 0 < k → 0 ≤ (z.chs.getD ((k : Int) - 1).toNat default).1 ∧ (z.chs.getD ((k : Int) - 1).toNat default).1 ≤ 52595999 := fun h => by rw [e1]; have := hp h; omega
    have c1 := e3Instant_ok (z.chs.getD k default).1
    have c2 := e3apart_ok (z.chs.getD k default).2 off
    have hw : (-840 ≤ (z.chs.getD k default).2 ∧ (z.chs.getD k default).2 ≤ 840) → IntKind.i64.wrap ((z.chs.getD k default).2 - off) = (z.chs.getD k default).2 - off ∧ IntKind.i64.wrap (off - (z.chs.getD k default).2) = off - (z.chs.getD k default).2 := fun h => ⟨wrap_id (by omega), wrap_id (by omega)⟩
    repeat' ((conv => whnf) <;> (first | refine Must.mk (fun h => h) ?_ | refine Must.mk (fun _ => rfl) ?_ | refine Must.mk Qw ?_ | refine MW.ok Qw ?_ | intro _ | exact Fin.pure rfl | refine Fin.pure ?_ | refine Br.tt ?_ | refine Br.ff ?_ | (refine Br.mk (fun h => ?_) (fun h => ?_) <;> (try simp only [sh] at h) <;> (try first | (exfalso; omega) | exact absurd trivial h | (exfalso; simp at h; done))) | refine Ix.at ‹_› Qw ?_ | refine Ix.mapN Qw ?_ | refine Ix.mapN1 Qw ?_ | refine Ix.map Qw ?_ | refine Ix.at Qi Qw ?_ | refine Quo.nn Qw ?_ | refine Quo.t Qw ?_ | refine Rem.nn Qw ?_ | refine Rem.t Qw ?_ | refine LK.callA ent59 (c1) rfl rfl (SbL.refl _) ?_ | refine Ask.callA ent59 (fun h => c1) rfl rfl (SbL.refl _) ?_ | refine LK.callA ent59 (c1) rfl rfl Ql ?_ | refine Ask.callA ent59 (fun h => c1) rfl rfl Ql ?_ | refine LK.callA ent60 (c2) rfl rfl (SbL.refl _) ?_ | refine Ask.callA ent60 (fun h => c2) rfl rfl (SbL.refl _) ?_ | refine LK.callA ent60 (c2) rfl rfl Ql ?_ | refine Ask.callA ent60 (fun h => c2) rfl rfl Ql ?_ | refine lB (T := tab) ?_ | refine lBA (T := tab) ?_ | refine LK.askW rfl ?_ | refine s1 ?_ | refine sA ?_ | refine CK.any false Qk ?_ | fail))
    · refine congrArg B (hno ?_).symm
      rw [hok, ← Bool.not_eq_true]
      simp only [Bool.and_eq_true, Bool.or_eq_true, decide_eq_true_eq]
      intro hh
      have := hw hh.1.2
      omega
    · (conv => whnf); (refine Nxt.of (k + 1) [2, 3, 4, 5, 22, 23, 24, 25, 26, 27, 28, 29, 30, 31, 32, 33, 34, 35, 36, 37, 38, 39, 40, 41, 42, 43, 44, 45, 46, 47, 48, 49, 50, 51, 52, 53, 54, 55, 56, 57, 58, 59, 60, 61, 62, 63, 64, 65, 66, 67, 68, 69, 70, 71, 72, 73] Qr Qr Qr ?_ ?_ Qy Qs <;> (try dsimp only) <;> (try omega))
      refine ⟨by omega, ?_⟩
      rw [List.range_succ, List.all_append, i2]
      simp only [List.all_cons, List.all_nil, Bool.and_true, Bool.true_and]
      rw [hok]
      simp only [Bool.and_eq_true, Bool.or_eq_true, decide_eq_true_eq]
      have := hw (by omega)
      omega
  · repeat' ((conv => whnf) <;> (first | refine Must.mk (fun h => h) ?_ | refine Must.mk (fun _ => rfl) ?_ | refine Must.mk Qw ?_ | refine MW.ok Qw ?_ | intro _ | exact Fin.pure rfl | refine Fin.pure ?_ | refine Br.tt ?_ | refine Br.ff ?_ | (refine Br.mk (fun h => ?_) (fun h => ?_) <;> (try simp only [sh] at h) <;> (try first | (exfalso; omega) | exact absurd trivial h | (exfalso; simp at h; done))) | refine Ix.at ‹_› Qw ?_ | refine Ix.mapN Qw ?_ | refine Ix.mapN1 Qw ?_ | refine Ix.map Qw ?_ | refine Ix.at Qi Qw ?_ | refine Quo.nn Qw ?_ | refine Quo.t Qw ?_ | refine Rem.nn Qw ?_ | refine Rem.t Qw ?_ | refine lB (T := tab) ?_ | refine lBA (T := tab) ?_ | refine LK.askW rfl ?_ | refine s1 ?_ | refine sA ?_ | refine CK.any false Qk ?_ | fail))
    refine congrArg B ?_
    have e : k = z.chs.length := by omega
    rw [e] at i2
    rw [validZ, i2, decide_eq_true (by omega), decide_eq_true (by omega)]; rfl
theorem offA_drop {off t : Int} : ∀ {cs : List (Int × Int)} {k : Nat}, k < cs.length → offA off (cs.drop k) t = if (cs.getD k default).1 ≤ t then offA (cs.getD k default).2 (cs.drop (k + 1)) t else off
  | cs, k, h => by
    rw [List.drop_eq_getElem_cons h, offA, getD_at h]
theorem e3offset_ok (z : Zo) (t : Int) (hlen : z.chs.length ≤ 1000) : FnA Tryz.prog 116 [.agg (zcs z), I t] (I (offA z.base z.chs t)) := by
  have hl : (z.chs.map chav).length = z.chs.length := by simp
  refine fn_run (T := tab) Tryz.func116 rfl Tryz.ntmps116 rfl Tryz.results116 (fun _ => ?_)
  repeat' ((conv => whnf) <;> (first | refine Must.mk (fun h => h) ?_ | refine Must.mk (fun _ => rfl) ?_ | refine Must.mk Qw ?_ | refine MW.ok Qw ?_ | intro _ | exact Fin.pure rfl | refine Fin.pure ?_ | refine Br.tt ?_ | refine Br.ff ?_ | (refine Br.mk (fun h => ?_) (fun h => ?_) <;> (try simp only [sh] at h) <;> (try first | (exfalso; omega) | exact absurd trivial h | (exfalso; simp at h; done))) | refine Ix.at ‹_› Qw ?_ | refine Ix.mapN Qw ?_ | refine Ix.mapN1 Qw ?_ | refine Ix.map Qw ?_ | refine Ix.at Qi Qw ?_ | refine Quo.nn Qw ?_ | refine Quo.t Qw ?_ | refine Rem.nn Qw ?_ | refine Rem.t Qw ?_ | refine lB (T := tab) ?_ | refine lBA (T := tab) ?_ | refine LK.askW rfl ?_ | refine s1 ?_ | refine sA ?_ | refine CK.any false Qk ?_ | fail))
  (conv => whnf); refine CK.loop [5, 6, 9, 10, 11, 12, 13, 14, 15, 16, 17, 18, 19, 20, 21, 22, 23, 24, 25, 26, 27, 28, 29, 30, 31] (σ := Nat × Int) (fun s => s.1 ≤ z.chs.length ∧ offA z.base z.chs t = offA s.2 (z.chs.drop s.1) t) (fun ⟨i, o⟩ => [(6, I i), (5, I o)]) (fun _ => _) (fun s => z.chs.length - s.1) (0, z.base) ⟨Nat.zero_le _, rfl⟩ Qy (List.Sublist.refl _) ?_
  conv => whnf
  rintro ⟨i, o⟩ ⟨i1, i2⟩
  simp only at i1 i2
  by_cases hi : i < z.chs.length
  · rw [offA_drop hi] at i2
    repeat' ((conv => whnf) <;> (first | refine Must.mk (fun h => h) ?_ | refine Must.mk (fun _ => rfl) ?_ | refine Must.mk Qw ?_ | refine MW.ok Qw ?_ | intro _ | exact Fin.pure rfl | refine Br.tt ?_ | refine Br.ff ?_ | (refine Br.mk (fun h => ?_) (fun h => ?_) <;> (try simp only [sh] at h) <;> (try first | (exfalso; omega) | exact absurd trivial h | (exfalso; simp at h; done))) | refine Ix.at ‹_› Qw ?_ | refine Ix.mapN Qw ?_ | refine Ix.mapN1 Qw ?_ | refine Ix.map Qw ?_ | refine Ix.at Qi Qw ?_ | refine Quo.nn Qw ?_ | refine Quo.t Qw ?_ | refine Rem.nn Qw ?_ | refine Rem.t Qw ?_ | refine lB (T := tab) ?_ | refine lBA (T := tab) ?_ | refine LK.askW rfl ?_ | refine s1 ?_ | refine sA ?_ | refine CK.any false Qk ?_ | fail))
    · (conv => whnf); (refine Nxt.of ((i + 1, (z.chs.getD i default).2)) [5, 6, 9, 10, 11, 12, 13, 14, 15, 16, 17, 18, 19, 20, 21, 22, 23, 24, 25, 26, 27, 28, 29, 30, 31] Qr Qr Qr ?_ ?_ Qy Qs <;> (try dsimp only) <;> (try omega))
    · conv => whnf
      refine Fin.pure ?_
      rw [i2, if_neg (by omega)]
  · rw [List.drop_eq_nil_of_le (by omega)] at i2
    repeat' ((conv => whnf) <;> (first | refine Must.mk (fun h => h) ?_ | refine Must.mk (fun _ => rfl) ?_ | refine Must.mk Qw ?_ | refine MW.ok Qw ?_ | intro _ | exact Fin.pure rfl | refine Fin.pure ?_ | refine Br.tt ?_ | refine Br.ff ?_ | (refine Br.mk (fun h => ?_) (fun h => ?_) <;> (try simp only [sh] at h) <;> (try first | (exfalso; omega) | exact absurd trivial h | (exfalso; simp at h; done))) | refine Ix.at ‹_› Qw ?_ | refine Ix.mapN Qw ?_ | refine Ix.mapN1 Qw ?_ | refine Ix.map Qw ?_ | refine Ix.at Qi Qw ?_ | refine Quo.nn Qw ?_ | refine Quo.t Qw ?_ | refine Rem.nn Qw ?_ | refine Rem.t Qw ?_ | refine lB (T := tab) ?_ | refine lBA (T := tab) ?_ | refine LK.askW rfl ?_ | refine s1 ?_ | refine sA ?_ | refine CK.any false Qk ?_ | fail))
    rw [i2]; rfl
theorem e3local_ok (z : Zo) (t : Int) (hlen : z.chs.length ≤ 1000) (ho : okOff z) (ht : 0 ≤ t ∧ t ≤ 60000000) : FnA Tryz.prog 86 [.agg (zcs z), I t] (.tup [I (locD z t), I (locM z t)]) := by
  have c1 := e3offset_ok z t hlen
  have hb := offA_bd (t := t) ho.1 ho.2
  unfold locD locM
  generalize offA z.base z.chs t = o at *
  refine fn_run (T := tab) Tryz.func86 rfl Tryz.ntmps86 rfl Tryz.results86 (fun _ => ?_)
  repeat' ((conv => whnf) <;> (first | refine Must.mk (fun h => h) ?_ | refine Must.mk (fun _ => rfl) ?_ | refine Must.mk Qw ?_ | refine MW.ok Qw ?_ | intro _ | exact Fin.pure rfl | refine Br.tt ?_ | refine Br.ff ?_ | (refine Br.mk (fun h => ?_) (fun h => ?_) <;> (try simp only [sh] at h) <;> (try first | (exfalso; omega) | exact absurd trivial h | (exfalso; simp at h; done))) | refine Ix.at ‹_› Qw ?_ | refine Ix.mapN Qw ?_ | refine Ix.mapN1 Qw ?_ | refine Ix.map Qw ?_ | refine Ix.at Qi Qw ?_ | refine Quo.nn Qw ?_ | refine Quo.t Qw ?_ | refine Rem.nn Qw ?_ | refine Rem.t Qw ?_ | refine LK.callA ent116 (c1) rfl rfl (SbL.refl _) ?_ | refine Ask.callA ent116 (fun h => c1) rfl rfl (SbL.refl _) ?_ | refine LK.callA ent116 (c1) rfl rfl Ql ?_ | refine Ask.callA ent116 (fun h => c1) rfl rfl Ql ?_ | refine lB (T := tab) ?_ | refine lBA (T := tab) ?_ | refine LK.askW rfl ?_ | refine s1 ?_ | refine sA ?_ | refine CK.any false Qk ?_ | fail))
  conv => whnf
  refine Fin.pure ?_
  rw [show (t + o) / 1440 = -1 by omega, show (t + o) % 1440 = t + o + 1440 by omega]
theorem set_P (l : List (Int × Int)) (k : Nat) (x : Int) : (l.map ptav).set k ((ptav (l.getD k default)).setCell 1 (I x)) = (l.set k ((l.getD k default).1, x)).map ptav := by
  rw [List.map_set]; rfl
set_option maxHeartbeats 4000000 in
theorem e3count_ok {c : Ctx} {L : List Ent} {v : Value} (l : List (Int × Int)) (day : Int) (ho : l.Pairwise fun a b => a.1 < b.1) (hl : l.length ≤ 1000000) (hb : ∀ q ∈ l, 0 ≤ q.2 ∧ q.2 ≤ 1000000) :
    FnL Tryz.prog c 88 [.v v, I day] (.row v 158 2 0 false (l.map ptav) :: L) fun r L' => ∃ v', r = .v v' ∧ L' = .row v' 158 2 0 false ((incZ day l).map ptav) :: L := by
  have hll : (l.map ptav).length = l.length := by simp
  refine fnL_run (T := tab) Tryz.func88 rfl Tryz.ntmps88 rfl Tryz.results88 (fun _ hw0 => ?_)
  repeat' ((conv => whnf) <;> (first | refine Must.mk (fun h => h) ?_ | refine Must.mk (fun _ => rfl) ?_ | refine Must.mk Qw ?_ | refine MW.ok Qw ?_ | intro _ | exact Fin.pure rfl | refine Br.tt ?_ | refine Br.ff ?_ | (refine Br.mk (fun h => ?_) (fun h => ?_) <;> (try simp only [sh] at h) <;> (try first | (exfalso; omega) | exact absurd trivial h | (exfalso; simp at h; done))) | refine Ix.at ‹_› Qw ?_ | refine Ix.mapN Qw ?_ | refine Ix.mapN1 Qw ?_ | refine Ix.map Qw ?_ | refine Ix.at Qi Qw ?_ | refine Quo.nn Qw ?_ | refine Quo.t Qw ?_ | refine Rem.nn Qw ?_ | refine Rem.t Qw ?_ | refine lB (T := tab) ?_ | refine lBA (T := tab) ?_ | refine lM (T := tab) ?_ | refine lM0 (T := tab) ?_ | refine lMA (T := tab) ?_ | refine sM ?_ | refine nR (T := tab) ?_ | refine iR (T := tab) ?_ | refine lR (T := tab) ?_ | refine lR0 (T := tab) ?_ | refine lRA (T := tab) ?_ | refine LK.askW rfl ?_ | refine s1 ?_ | refine sA ?_ | refine LK.bsl rfl rfl rfl rfl ?_ | (refine LK.frzR 0 rfl ?_ <;> refine pF ?_) | refine pA ?_ | refine sR ?_ | refine CK.any false Qk ?_ | fail))
  (conv => whnf); refine CK.loopK [5, 8, 9, 10, 11, 12, 13, 14, 15, 16, 17, 18, 19, 20, 21] (σ := Int) (fun k => 0 ≤ k ∧ k ≤ l.length ∧ ∀ p ∈ l.drop k.toNat, day ≤ p.1) (fun k => [(5, I k)]) (fun _ => [.row v 158 2 0 false (l.map ptav)]) _ (fun k => k.toNat) ((l.map ptav).length : Int) ⟨by omega, by omega, by rw [Int.toNat_natCast, hll]; simp⟩ Qy Qs ?_
  conv => whnf
  rintro k ⟨i0, i1, i2⟩
  have fin : (k = 0 ∨ (l.getD (k - 1).toNat default).1 < day) → incZ day l = if k.toNat < l.length ∧ (l.getD k.toNat default).1 = day then l.set k.toNat (day, (l.getD k.toNat default).2 + 1) else l.take k.toNat ++ (day, 1) :: l.drop k.toNat := fun h => incZ_at (by omega) (fun p hp => by
    obtain ⟨j, hj, rfl⟩ := List.mem_iff_getElem.1 hp
    rw [List.length_take] at hj
    rw [List.getElem_take]
    rcases h with h | h
    · omega
    · rw [getD_at (show (k - 1).toNat < l.length by omega)] at h
      by_cases e : j = (k - 1).toNat
      · subst e; exact h
      · have := List.pairwise_iff_getElem.1 ho j (k - 1).toNat (by omega) (by omega) (by omega)
        omega) i2
  have step : 0 < k → day ≤ (l.getD (k - 1).toNat default).1 → ∀ p ∈ l.drop (k - 1).toNat, day ≤ p.1 := fun h0 h p hp => by
    rw [List.drop_eq_getElem_cons (show (k - 1).toNat < l.length by omega), ← getD_at (show (k - 1).toNat < l.length by omega), show (k - 1).toNat + 1 = k.toNat by omega] at hp
    rcases List.mem_cons.1 hp with rfl | hp
    · exact h
    · exact i2 p hp
  have hlt : ((l.map ptav).take k.toNat).length ≤ 1000000 := by simp; omega
  have hld : ((l.map ptav).drop k.toNat).length ≤ 1000000 := by simp; omega
  by_cases hk : k < l.length
  · have hbk := hb _ (getD_mem (l := l) (k := k.toNat) (by omega))
    have hset := set_P l k.toNat ((l.getD k.toNat default).2 + 1)
    repeat' ((conv => whnf) <;> (first | refine Must.mk (fun h => h) ?_ | refine Must.mk (fun _ => rfl) ?_ | refine Must.mk Qw ?_ | refine MW.ok Qw ?_ | intro _ | exact Fin.pure rfl | refine Br.tt ?_ | refine Br.ff ?_ | (refine Br.mk (fun h => ?_) (fun h => ?_) <;> (try simp only [sh] at h) <;> (try first | (exfalso; omega) | exact absurd trivial h | (exfalso; simp at h; done))) | refine Ix.at ‹_› Qw ?_ | refine Ix.mapN Qw ?_ | refine Ix.mapN1 Qw ?_ | refine Ix.map Qw ?_ | refine Ix.at Qi Qw ?_ | refine Quo.nn Qw ?_ | refine Quo.t Qw ?_ | refine Rem.nn Qw ?_ | refine Rem.t Qw ?_ | refine lB (T := tab) ?_ | refine lBA (T := tab) ?_ | refine lM (T := tab) ?_ | refine lM0 (T := tab) ?_ | refine lMA (T := tab) ?_ | refine sM ?_ | refine nR (T := tab) ?_ | refine iR (T := tab) ?_ | refine lR (T := tab) ?_ | refine lR0 (T := tab) ?_ | refine lRA (T := tab) ?_ | refine LK.askW rfl ?_ | refine s1 ?_ | refine sA ?_ | refine LK.bsl rfl rfl rfl rfl ?_ | (refine LK.frzR 0 rfl ?_ <;> refine pF ?_) | refine pA ?_ | refine sR ?_ | refine CK.any false Qk ?_ | fail))
    · conv => whnf
      (conv => whnf); (refine Nxt.of (k - 1) [5, 8, 9, 10, 11, 12, 13, 14, 15, 16, 17, 18, 19, 20, 21] Qr Qr Qr ?_ ?_ Qy Qs <;> (try dsimp only) <;> (try omega))
      exact ⟨by omega, by omega, step (by omega) (by omega)⟩
    · conv => whnf
      rw [fin (by omega), if_pos ⟨by omega, by omega⟩]
      rw [hset, show (l.getD k.toNat default).1 = day by omega]
      exact .out _ (List.Sublist.refl _) ⟨_, rfl, rfl⟩
    · conv => whnf
      refine CK.frzR1 0 rfl ?_
      refine CK.seeR 0 0 rfl rfl ?_
      repeat' ((conv => whnf) <;> (first | refine CK.anyK [1, 2, 3, 5, 6, 7, 9, 10, 11] [0, 4, 8, 12, 13] _ (List.Sublist.refl _) Qk ?_ | refine Must.mk (fun h => h) ?_ | refine Must.mk (fun _ => rfl) ?_ | refine Must.mk Qw ?_ | refine MW.ok Qw ?_ | intro _ | exact Fin.pure rfl | refine Br.tt ?_ | refine Br.ff ?_ | (refine Br.mk (fun h => ?_) (fun h => ?_) <;> (try simp only [sh] at h) <;> (try first | (exfalso; omega) | exact absurd trivial h | (exfalso; simp at h; done))) | refine Ix.at ‹_› Qw ?_ | refine Ix.mapN Qw ?_ | refine Ix.mapN1 Qw ?_ | refine Ix.map Qw ?_ | refine Ix.at Qi Qw ?_ | refine Quo.nn Qw ?_ | refine Quo.t Qw ?_ | refine Rem.nn Qw ?_ | refine Rem.t Qw ?_ | refine lB (T := tab) ?_ | refine lBA (T := tab) ?_ | refine LK.askW rfl ?_ | refine s1 ?_ | refine sA ?_ | refine LK.gr (Gr.bslV (T := tab) rfl rfl rfl rfl) ?_ | refine Ask.of (Gr.bslV (T := tab) rfl rfl rfl rfl) ?_ | refine Kx.nil ?_ | refine Kx.stp (T := tab) rfl rfl Qs ?_ | refine kA (T := tab) ?_ | (refine Kx.frzR 0 rfl ?_ <;> refine kF (T := tab) ?_) | refine kP (T := tab) ?_ | refine k1 (T := tab) ?_ | refine kB (T := tab) ?_ | refine kL (T := tab) ?_ | refine CK.any false Qk ?_ | refine CK.any true Qk ?_ | fail))
      rw [fin (by omega), if_neg (by omega)]
      conv => whnf
      exact .out _ (.cons_cons _ (.cons _ (.refl _))) ⟨_, rfl, by simp [ptav]⟩
  · repeat' ((conv => whnf) <;> (first | refine Must.mk (fun h => h) ?_ | refine Must.mk (fun _ => rfl) ?_ | refine Must.mk Qw ?_ | refine MW.ok Qw ?_ | intro _ | exact Fin.pure rfl | refine Br.tt ?_ | refine Br.ff ?_ | (refine Br.mk (fun h => ?_) (fun h => ?_) <;> (try simp only [sh] at h) <;> (try first | (exfalso; omega) | exact absurd trivial h | (exfalso; simp at h; done))) | refine Ix.at ‹_› Qw ?_ | refine Ix.mapN Qw ?_ | refine Ix.mapN1 Qw ?_ | refine Ix.map Qw ?_ | refine Ix.at Qi Qw ?_ | refine Quo.nn Qw ?_ | refine Quo.t Qw ?_ | refine Rem.nn Qw ?_ | refine Rem.t Qw ?_ | refine lB (T := tab) ?_ | refine lBA (T := tab) ?_ | refine lM (T := tab) ?_ | refine lM0 (T := tab) ?_ | refine lMA (T := tab) ?_ | refine sM ?_ | refine nR (T := tab) ?_ | refine iR (T := tab) ?_ | refine lR (T := tab) ?_ | refine lR0 (T := tab) ?_ | refine lRA (T := tab) ?_ | refine LK.askW rfl ?_ | refine s1 ?_ | refine sA ?_ | refine LK.bsl rfl rfl rfl rfl ?_ | (refine LK.frzR 0 rfl ?_ <;> refine pF ?_) | refine pA ?_ | refine sR ?_ | refine CK.any false Qk ?_ | fail))
    · conv => whnf
      (conv => whnf); (refine Nxt.of (k - 1) [5, 8, 9, 10, 11, 12, 13, 14, 15, 16, 17, 18, 19, 20, 21] Qr Qr Qr ?_ ?_ Qy Qs <;> (try dsimp only) <;> (try omega))
      exact ⟨by omega, by omega, step (by omega) (by omega)⟩
    · conv => whnf
      refine CK.frzR1 0 rfl ?_
      refine CK.seeR 0 0 rfl rfl ?_
      repeat' ((conv => whnf) <;> (first | refine CK.anyK [1, 2, 3, 5, 6, 7, 9, 10, 11] [0, 4, 8, 12, 13] _ (List.Sublist.refl _) Qk ?_ | refine Must.mk (fun h => h) ?_ | refine Must.mk (fun _ => rfl) ?_ | refine Must.mk Qw ?_ | refine MW.ok Qw ?_ | intro _ | exact Fin.pure rfl | refine Br.tt ?_ | refine Br.ff ?_ | (refine Br.mk (fun h => ?_) (fun h => ?_) <;> (try simp only [sh] at h) <;> (try first | (exfalso; omega) | exact absurd trivial h | (exfalso; simp at h; done))) | refine Ix.at ‹_› Qw ?_ | refine Ix.mapN Qw ?_ | refine Ix.mapN1 Qw ?_ | refine Ix.map Qw ?_ | refine Ix.at Qi Qw ?_ | refine Quo.nn Qw ?_ | refine Quo.t Qw ?_ | refine Rem.nn Qw ?_ | refine Rem.t Qw ?_ | refine lB (T := tab) ?_ | refine lBA (T := tab) ?_ | refine LK.askW rfl ?_ | refine s1 ?_ | refine sA ?_ | refine LK.gr (Gr.bslV (T := tab) rfl rfl rfl rfl) ?_ | refine Ask.of (Gr.bslV (T := tab) rfl rfl rfl rfl) ?_ | refine Kx.nil ?_ | refine Kx.stp (T := tab) rfl rfl Qs ?_ | refine kA (T := tab) ?_ | (refine Kx.frzR 0 rfl ?_ <;> refine kF (T := tab) ?_) | refine kP (T := tab) ?_ | refine k1 (T := tab) ?_ | refine kB (T := tab) ?_ | refine kL (T := tab) ?_ | refine CK.any false Qk ?_ | refine CK.any true Qk ?_ | fail))
      rw [fin (by omega), if_neg (by omega)]
      conv => whnf
      exact .out _ (.cons_cons _ (.cons _ (.refl _))) ⟨_, rfl, by simp [ptav]⟩
theorem okOff_of {z : Zo} (hz : validZ z = true) : okOff z ∧ z.chs.length ≤ 64 := by
  unfold validZ at hz
  simp only [Bool.and_eq_true, decide_eq_true_eq] at hz
  refine ⟨⟨hz.1.2, fun c hc => ?_⟩, hz.1.1⟩
  obtain ⟨i, hi, rfl⟩ := List.mem_iff_getElem.1 hc
  have := okC_at hz.2 hi
  simp only [List.getD, List.getElem?_eq_getElem hi, Option.getD_some] at this
  omega
set_option maxHeartbeats 4000000 in
theorem e3Split_ok (z : Zo) (a b : Int) (hz : validZ z = true) (hab : 0 ≤ a ∧ a ≤ b ∧ b ≤ 52596000 ∧ b - a ≤ 44640) :
    FnA Tryz.prog 64 [.agg (zcs z), I a, I b] (.tup [.sl 2 ((if splitOk z a b then splitZ z a b else []).map ptav), I (if splitOk z a b then 0 else 21)]) := by
  obtain ⟨ho, h64⟩ := okOff_of hz
  have c1 := e3Valid_ok z (by omega)
  have c2 := e3Stretch_ok a b
  rw [hz] at c1
  refine fn_run (T := tab) Tryz.func64 rfl Tryz.ntmps64 rfl Tryz.results64 (fun _ => ?_)
  repeat' ((conv => whnf) <;> (first | refine Must.mk (fun h => h) ?_ | refine Must.mk (fun _ => rfl) ?_ | refine Must.mk Qw ?_ | refine MW.ok Qw ?_ | intro _ | exact Fin.pure rfl | refine Br.tt ?_ | refine Br.ff ?_ | (refine Br.mk (fun h => ?_) (fun h => ?_) <;> (try simp only [sh] at h) <;> (try first | (exfalso; omega) | exact absurd trivial h | (exfalso; simp at h; done))) | refine Ix.at ‹_› Qw ?_ | refine Ix.mapN Qw ?_ | refine Ix.mapN1 Qw ?_ | refine Ix.map Qw ?_ | refine Ix.at Qi Qw ?_ | refine Quo.nn Qw ?_ | refine Quo.t Qw ?_ | refine Rem.nn Qw ?_ | refine Rem.t Qw ?_ | refine LK.callA ent24 (c1) rfl rfl (SbL.refl _) ?_ | refine Ask.callA ent24 (fun h => c1) rfl rfl (SbL.refl _) ?_ | refine LK.callA ent24 (c1) rfl rfl Ql ?_ | refine Ask.callA ent24 (fun h => c1) rfl rfl Ql ?_ | refine LK.callA ent85 (c2) rfl rfl (SbL.refl _) ?_ | refine Ask.callA ent85 (fun h => c2) rfl rfl (SbL.refl _) ?_ | refine LK.callA ent85 (c2) rfl rfl Ql ?_ | refine Ask.callA ent85 (fun h => c2) rfl rfl Ql ?_ | refine lB (T := tab) ?_ | refine lBA (T := tab) ?_ | refine LK.askW rfl ?_ | refine s1 ?_ | refine sA ?_ | refine CK.any false Qk ?_ | fail))
  refine CK.nilrow 158 2 ?_
  (conv => whnf); refine CK.loopK [6, 7, 8, 9, 10, 11, 26, 27, 28, 29, 30, 31, 32, 33, 34, 35, 36, 37, 38, 39, 40, 41, 42] (σ := Int × Value) (fun s => a ≤ s.1 ∧ s.1 ≤ b ∧ ∀ x, a ≤ x → x < s.1 → okDay (locD z x) = true) (fun ⟨t, v⟩ => [(9, I t), (8, .v v)]) (fun ⟨t, v⟩ => [.row v 158 2 0 false ((splitZ z a t).map ptav)]) _ (fun s => (b - s.1).toNat) (a, .slice none 0 0) ⟨Int.le_refl _, hab.2.1, fun x h1 h2 => by omega⟩ Qy (by dsimp only; rw [split_nil z ho]; exact Qs) ?_
  conv => whnf
  rintro ⟨t, v⟩ ⟨i1, i2, i3⟩
  simp only at i1 i2 i3
  by_cases ht : t < b
  · have c3 := e3local_ok z t (by omega) ho (by omega)
    have c4 := e3Day_ok (locD z t)
    have hl := split_len ho i1
    have hq : ∀ q ∈ splitZ z a t, 0 ≤ q.2 ∧ q.2 ≤ 1000000 := fun q hq => by
      have h1 := (split_mem ho i1).1 hq
      have h2 := cnt_bd (fun t => decide (locD z t = q.1)) i1
      omega
    have c5 := fun c L => e3count_ok (c := c) (L := L) (v := v) (splitZ z a t) (locD z t) (prt_ord _ _ _) (by omega) hq
    rw [← split_step ho i1] at c5
    by_cases hd : okDay (locD z t) = true
    · rw [hd] at c4
      repeat' ((conv => whnf) <;> (first | refine Must.mk (fun h => h) ?_ | refine Must.mk (fun _ => rfl) ?_ | refine Must.mk Qw ?_ | refine MW.ok Qw ?_ | intro _ | exact Fin.pure rfl | refine Br.tt ?_ | refine Br.ff ?_ | (refine Br.mk (fun h => ?_) (fun h => ?_) <;> (try simp only [sh] at h) <;> (try first | (exfalso; omega) | exact absurd trivial h | (exfalso; simp at h; done))) | refine Ix.at ‹_› Qw ?_ | refine Ix.mapN Qw ?_ | refine Ix.mapN1 Qw ?_ | refine Ix.map Qw ?_ | refine Ix.at Qi Qw ?_ | refine Quo.nn Qw ?_ | refine Quo.t Qw ?_ | refine Rem.nn Qw ?_ | refine Rem.t Qw ?_ | refine LK.callA ent86 (c3) rfl rfl (SbL.refl _) ?_ | refine Ask.callA ent86 (fun h => c3) rfl rfl (SbL.refl _) ?_ | refine LK.callA ent86 (c3) rfl rfl Ql ?_ | refine Ask.callA ent86 (fun h => c3) rfl rfl Ql ?_ | refine LK.callA ent87 (c4) rfl rfl (SbL.refl _) ?_ | refine Ask.callA ent87 (fun h => c4) rfl rfl (SbL.refl _) ?_ | refine LK.callA ent87 (c4) rfl rfl Ql ?_ | refine Ask.callA ent87 (fun h => c4) rfl rfl Ql ?_ | (refine LK.callL ent88 (c5 _ _) rfl rfl Ql (fun _ _ hcall => ?_) <;> obtain ⟨v', rfl, rfl⟩ := hcall) | refine lB (T := tab) ?_ | refine lBA (T := tab) ?_ | refine LK.askW rfl ?_ | refine s1 ?_ | refine sA ?_ | refine CK.any false Qk ?_ | fail))
      (conv => whnf); (refine Nxt.of ((t + 1, v')) [6, 7, 8, 9, 10, 11, 26, 27, 28, 29, 30, 31, 32, 33, 34, 35, 36, 37, 38, 39, 40, 41, 42] Qr Qr Qr ?_ ?_ Qy Qs <;> (try dsimp only) <;> (try omega))
      refine ⟨by omega, by omega, fun x h1 h2 => ?_⟩
      by_cases e : x = t
      · subst e; exact hd
      · exact i3 x h1 (by omega)
    · have hno : splitOk z a b = false := by
        rw [← Bool.not_eq_true, splitOk_iff ho hab.2.1]
        exact fun h => hd (h t i1 ht)
      rw [Bool.not_eq_true] at hd
      rw [hd] at c4
      rw [hno]
      repeat' ((conv => whnf) <;> (first | refine Must.mk (fun h => h) ?_ | refine Must.mk (fun _ => rfl) ?_ | refine Must.mk Qw ?_ | refine MW.ok Qw ?_ | intro _ | exact Fin.pure rfl | refine Br.tt ?_ | refine Br.ff ?_ | (refine Br.mk (fun h => ?_) (fun h => ?_) <;> (try simp only [sh] at h) <;> (try first | (exfalso; omega) | exact absurd trivial h | (exfalso; simp at h; done))) | refine Ix.at ‹_› Qw ?_ | refine Ix.mapN Qw ?_ | refine Ix.mapN1 Qw ?_ | refine Ix.map Qw ?_ | refine Ix.at Qi Qw ?_ | refine Quo.nn Qw ?_ | refine Quo.t Qw ?_ | refine Rem.nn Qw ?_ | refine Rem.t Qw ?_ | refine LK.callA ent86 (c3) rfl rfl (SbL.refl _) ?_ | refine Ask.callA ent86 (fun h => c3) rfl rfl (SbL.refl _) ?_ | refine LK.callA ent86 (c3) rfl rfl Ql ?_ | refine Ask.callA ent86 (fun h => c3) rfl rfl Ql ?_ | refine LK.callA ent87 (c4) rfl rfl (SbL.refl _) ?_ | refine Ask.callA ent87 (fun h => c4) rfl rfl (SbL.refl _) ?_ | refine LK.callA ent87 (c4) rfl rfl Ql ?_ | refine Ask.callA ent87 (fun h => c4) rfl rfl Ql ?_ | refine lB (T := tab) ?_ | refine lBA (T := tab) ?_ | refine LK.askW rfl ?_ | refine s1 ?_ | refine sA ?_ | refine CK.any false Qk ?_ | fail))
      conv => whnf
      exact Fin.seeP Qz
  · obtain rfl : t = b := by omega
    have hyes : splitOk z a t = true := (splitOk_iff ho i1).2 i3
    rw [hyes]
    repeat' ((conv => whnf) <;> (first | refine Must.mk (fun h => h) ?_ | refine Must.mk (fun _ => rfl) ?_ | refine Must.mk Qw ?_ | refine MW.ok Qw ?_ | intro _ | exact Fin.pure rfl | refine Br.tt ?_ | refine Br.ff ?_ | (refine Br.mk (fun h => ?_) (fun h => ?_) <;> (try simp only [sh] at h) <;> (try first | (exfalso; omega) | exact absurd trivial h | (exfalso; simp at h; done))) | refine Ix.at ‹_› Qw ?_ | refine Ix.mapN Qw ?_ | refine Ix.mapN1 Qw ?_ | refine Ix.map Qw ?_ | refine Ix.at Qi Qw ?_ | refine Quo.nn Qw ?_ | refine Quo.t Qw ?_ | refine Rem.nn Qw ?_ | refine Rem.t Qw ?_ | refine lB (T := tab) ?_ | refine lBA (T := tab) ?_ | refine LK.askW rfl ?_ | refine s1 ?_ | refine sA ?_ | refine CK.any false Qk ?_ | fail))
    conv => whnf
    refine Fin.frzR 0 rfl ?_
    exact Fin.seeP Qz
set_option maxHeartbeats 4000000 in
theorem e3Window_ok (z : Zo) (a b : Int) (w : Sp) (hz : validZ z = true) (hab : 0 ≤ a ∧ a ≤ b ∧ b ≤ 52596000 ∧ b - a ≤ 44640) (hw : 0 ≤ w.1 ∧ w.1 ≤ 1440 ∧ 0 ≤ w.2 ∧ w.2 ≤ 1440) :
    FnA Tryz.prog 157 [.agg (zcs z), I a, I b, spav w] (.tup [I (winZ w (strZ z.base z.chs a b)), I 0]) := by
  obtain ⟨ho, h64⟩ := okOff_of hz
  have c1 := e3Valid_ok z (by omega)
  have c2 := e3Stretch_ok a b
  have c0 := e3Frame_ok w
  have hwi : (inB w.1 1440 && inB w.2 1440) = true := by
    unfold inB
    simp only [Bool.and_eq_true, decide_eq_true_eq]
    omega
  rw [hwi] at c0
  rw [hz] at c1
  rw [winZ_cnt z w hab.2.1]
  refine fn_run (T := tab) Tryz.func157 rfl Tryz.ntmps157 rfl Tryz.results157 (fun _ => ?_)
  repeat' ((conv => whnf) <;> (first | refine Must.mk (fun h => h) ?_ | refine Must.mk (fun _ => rfl) ?_ | refine Must.mk Qw ?_ | refine MW.ok Qw ?_ | intro _ | exact Fin.pure rfl | refine Br.tt ?_ | refine Br.ff ?_ | (refine Br.mk (fun h => ?_) (fun h => ?_) <;> (try simp only [sh] at h) <;> (try first | (exfalso; omega) | exact absurd trivial h | (exfalso; simp at h; done))) | refine Ix.at ‹_› Qw ?_ | refine Ix.mapN Qw ?_ | refine Ix.mapN1 Qw ?_ | refine Ix.map Qw ?_ | refine Ix.at Qi Qw ?_ | refine Quo.nn Qw ?_ | refine Quo.t Qw ?_ | refine Rem.nn Qw ?_ | refine Rem.t Qw ?_ | refine LK.callA ent24 (c1) rfl rfl (SbL.refl _) ?_ | refine Ask.callA ent24 (fun h => c1) rfl rfl (SbL.refl _) ?_ | refine LK.callA ent24 (c1) rfl rfl Ql ?_ | refine Ask.callA ent24 (fun h => c1) rfl rfl Ql ?_ | refine LK.callA ent85 (c2) rfl rfl (SbL.refl _) ?_ | refine Ask.callA ent85 (fun h => c2) rfl rfl (SbL.refl _) ?_ | refine LK.callA ent85 (c2) rfl rfl Ql ?_ | refine Ask.callA ent85 (fun h => c2) rfl rfl Ql ?_ | refine LK.callA ent62 (c0) rfl rfl (SbL.refl _) ?_ | refine Ask.callA ent62 (fun h => c0) rfl rfl (SbL.refl _) ?_ | refine LK.callA ent62 (c0) rfl rfl Ql ?_ | refine Ask.callA ent62 (fun h => c0) rfl rfl Ql ?_ | refine lB (T := tab) ?_ | refine lBA (T := tab) ?_ | refine LK.askW rfl ?_ | refine s1 ?_ | refine sA ?_ | refine CK.any false Qk ?_ | fail))
  (conv => whnf); refine CK.loop [10, 11, 12, 13, 33, 34, 35, 36, 37, 38, 39, 40, 41, 42, 43, 44, 45, 46, 47, 48] (σ := Int × Int) (fun s => a ≤ s.1 ∧ s.1 ≤ b ∧ s.2 = cnt (fun t => inW w (locM z t)) a s.1) (fun ⟨t, n⟩ => [(11, I t), (10, I n)]) (fun _ => _) (fun s => (b - s.1).toNat) (a, 0) ⟨Int.le_refl _, hab.2.1, (cnt_self _ _).symm⟩ Qy (List.Sublist.refl _) ?_
  conv => whnf
  rintro ⟨t, n⟩ ⟨i1, i2, i3⟩
  simp only at i1 i2 i3
  by_cases ht : t < b
  · have c3 := e3local_ok z t (by omega) ho (by omega)
    have c4 := e3In_ok w (locM z t)
    have h2 := cnt_bd (fun t => inW w (locM z t)) i1
    have h3 := cnt_next (fun t => inW w (locM z t)) i1
    repeat' ((conv => whnf) <;> (first | refine Must.mk (fun h => h) ?_ | refine Must.mk (fun _ => rfl) ?_ | refine Must.mk Qw ?_ | refine MW.ok Qw ?_ | intro _ | exact Fin.pure rfl | refine Br.tt ?_ | refine Br.ff ?_ | (refine Br.mk (fun h => ?_) (fun h => ?_) <;> (try simp only [sh] at h) <;> (try first | (exfalso; omega) | exact absurd trivial h | (exfalso; simp at h; done))) | refine Ix.at ‹_› Qw ?_ | refine Ix.mapN Qw ?_ | refine Ix.mapN1 Qw ?_ | refine Ix.map Qw ?_ | refine Ix.at Qi Qw ?_ | refine Quo.nn Qw ?_ | refine Quo.t Qw ?_ | refine Rem.nn Qw ?_ | refine Rem.t Qw ?_ | refine LK.callA ent86 (c3) rfl rfl (SbL.refl _) ?_ | refine Ask.callA ent86 (fun h => c3) rfl rfl (SbL.refl _) ?_ | refine LK.callA ent86 (c3) rfl rfl Ql ?_ | refine Ask.callA ent86 (fun h => c3) rfl rfl Ql ?_ | refine LK.callA ent164 (c4) rfl rfl (SbL.refl _) ?_ | refine Ask.callA ent164 (fun h => c4) rfl rfl (SbL.refl _) ?_ | refine LK.callA ent164 (c4) rfl rfl Ql ?_ | refine Ask.callA ent164 (fun h => c4) rfl rfl Ql ?_ | refine lB (T := tab) ?_ | refine lBA (T := tab) ?_ | refine LK.askW rfl ?_ | refine s1 ?_ | refine sA ?_ | refine CK.any false Qk ?_ | fail))
    · (conv => whnf); (refine Nxt.of ((t + 1, n + 1)) [10, 11, 12, 13, 33, 34, 35, 36, 37, 38, 39, 40, 41, 42, 43, 44, 45, 46, 47, 48] Qr Qr Qr ?_ ?_ Qy Qs <;> (try dsimp only) <;> (try omega))
      rw [if_pos h] at h3
      exact ⟨by omega, by omega, by omega⟩
    · (conv => whnf); (refine Nxt.of ((t + 1, n)) [10, 11, 12, 13, 33, 34, 35, 36, 37, 38, 39, 40, 41, 42, 43, 44, 45, 46, 47, 48] Qr Qr Qr ?_ ?_ Qy Qs <;> (try dsimp only) <;> (try omega))
      rw [if_neg (by simpa using h)] at h3
      exact ⟨by omega, by omega, by omega⟩
  · obtain rfl : t = b := by omega
    repeat' ((conv => whnf) <;> (first | refine Must.mk (fun h => h) ?_ | refine Must.mk (fun _ => rfl) ?_ | refine Must.mk Qw ?_ | refine MW.ok Qw ?_ | intro _ | exact Fin.pure rfl | refine Br.tt ?_ | refine Br.ff ?_ | (refine Br.mk (fun h => ?_) (fun h => ?_) <;> (try simp only [sh] at h) <;> (try first | (exfalso; omega) | exact absurd trivial h | (exfalso; simp at h; done))) | refine Ix.at ‹_› Qw ?_ | refine Ix.mapN Qw ?_ | refine Ix.mapN1 Qw ?_ | refine Ix.map Qw ?_ | refine Ix.at Qi Qw ?_ | refine Quo.nn Qw ?_ | refine Quo.t Qw ?_ | refine Rem.nn Qw ?_ | refine Rem.t Qw ?_ | refine lB (T := tab) ?_ | refine lBA (T := tab) ?_ | refine LK.askW rfl ?_ | refine s1 ?_ | refine sA ?_ | refine CK.any false Qk ?_ | fail))
    conv => whnf
    refine Fin.pure ?_
    rw [i3]
end Go.Proofs.YthjllgabmgkocaaGreat
namespace Go.Proofs.YthjllgabmgkocaaGreat
open Go.E2 Go.Wage
theorem e4Proper_ok (s : Sp) : FnA Tryz.prog 89 [spav s] (B (prp s)) := by
  refine fn_run (T := tab) Tryz.func89 rfl Tryz.ntmps89 rfl Tryz.results89 (fun _ => ?_)
  repeat' ((conv => whnf) <;> (first | refine Must.mk (fun h => h) ?_ | refine Must.mk (fun _ => rfl) ?_ | refine Must.mk Qw ?_ | refine MW.ok Qw ?_ | intro _ | exact Fin.pure rfl | refine Fin.pure ?_ | refine Br.tt ?_ | refine Br.ff ?_ | (refine Br.mk (fun h => ?_) (fun h => ?_) <;> (try simp only [sh] at h) <;> (try first | (exfalso; omega) | exact absurd trivial h | (exfalso; simp at h; done))) | refine Ix.at ‹_› Qw ?_ | refine Ix.mapN Qw ?_ | refine Ix.mapN1 Qw ?_ | refine Ix.map Qw ?_ | refine Ix.at Qi Qw ?_ | refine Quo.nn Qw ?_ | refine Quo.t Qw ?_ | refine Rem.nn Qw ?_ | refine Rem.t Qw ?_ | refine lB (T := tab) ?_ | refine lBA (T := tab) ?_ | refine LK.askW rfl ?_ | refine s1 ?_ | refine sA ?_ | refine CK.any false Qk ?_ | fail))
theorem VF_at {lb : Int} : ∀ {l : List Sp}, VF lb l ↔ ∀ i, i < l.length → (l.getD i default).1 < (l.getD i default).2 ∧ (if i = 0 then lb else (l.getD (i - 1) default).2) < (l.getD i default).1
  | [] => by simp [VF]
  | s :: l => by
    rw [VF, VF_at (l := l)]
    constructor
    · rintro ⟨h1, h2, h3⟩ i hi
      cases i with
      | zero => exact ⟨by simpa using h2, by simpa using h1⟩
      | succ i =>
        have := h3 i (by simpa using hi)
        refine ⟨by simpa using this.1, ?_⟩
        rw [if_neg (by omega)]
        cases i with
        | zero => simpa using this.2
        | succ i => simpa using this.2
    · intro h
      have h0 := h 0 (by simp)
      refine ⟨by simpa using h0.2, by simpa using h0.1, fun i hi => ?_⟩
      have h1 := h (i + 1) (by simpa using hi)
      refine ⟨by simpa using h1.1, ?_⟩
      have h2 := h1.2
      rw [if_neg (by omega)] at h2
      cases i with
      | zero => simpa using h2
      | succ i => simpa using h2
def okS (l : List Sp) (i : Nat) : Prop := prp (l.getD i default) = true ∧ (i = 0 ∨ (l.getD (i - 1) default).2 < (l.getD i default).1)
theorem validS_iff {l : List Sp} : validS l = true ↔ ∀ i, i < l.length → okS l i := by
  unfold validS
  rw [decide_eq_true_eq]
  obtain ⟨h1, h2⟩ := nrm_spec l
  constructor
  · intro h
    rw [h] at h1 h2
    have h3 := VF_at.1 h1
    intro i hi
    have h4 := h3 i hi
    have hlow : ∀ j, j < l.length → -1152921504606846976 ≤ (l.getD j default).1 := fun j hj => by
      induction j with
      | zero => have := (h3 0 hj).2; simp only [if_true] at this; omega
      | succ j ih =>
        have a := ih (by omega)
        have b := h3 (j + 1) hj
        have c := (h3 j (by omega)).1
        rw [if_neg (by omega)] at b
        have d := b.2
        simp only [Nat.add_sub_cancel] at d
        omega
    have hup : (l.getD i default).2 ≤ 1152921504606846976 := by
      obtain ⟨t, ht, h5, h6⟩ := (h2 ((l.getD i default).2 - 1)).1 ⟨_, getD_mem hi, by omega, by omega⟩
      have h7 := (List.mem_filter.1 ht).2
      unfold prp at h7
      simp only [Bool.and_eq_true, decide_eq_true_eq] at h7
      omega
    refine ⟨?_, ?_⟩
    · have := hlow i hi
      unfold prp
      simp only [Bool.and_eq_true, decide_eq_true_eq]
      omega
    · by_cases e : i = 0
      · exact .inl e
      · have := h4.2
        rw [if_neg e] at this
        exact .inr this
  · intro h
    have hp : ∀ i, i < l.length → -1152921504606846976 ≤ (l.getD i default).1 ∧ (l.getD i default).1 < (l.getD i default).2 := fun i hi => by
      have := (h i hi).1
      unfold prp at this
      simp only [Bool.and_eq_true, decide_eq_true_eq] at this
      omega
    have hv : VF (-1152921504606846977) l := VF_at.2 fun i hi => by
      have a := hp i hi
      refine ⟨a.2, ?_⟩
      split
      · omega
      · rename_i e
        exact (h i hi).2.resolve_left e
    have hf : l.filter prp = l := List.filter_eq_self.2 fun s hs => by
      obtain ⟨i, hi, rfl⟩ := List.mem_iff_getElem.1 hs
      have := (h i hi).1
      rwa [getD_at hi] at this
    exact (nrm_uniq hv fun x => by rw [hf]).symm
theorem e4Valid_ok (l : List Sp) (hl : l.length ≤ 1000000000) : FnA Tryz.prog 65 [.sl 2 (l.map spav)] (B (validS l)) := by
  have hll : (l.map spav).length = l.length := by simp
  refine fn_run (T := tab) Tryz.func65 rfl Tryz.ntmps65 rfl Tryz.results65 (fun _ => ?_)
  repeat' ((conv => whnf) <;> (first | refine Must.mk (fun h => h) ?_ | refine Must.mk (fun _ => rfl) ?_ | refine Must.mk Qw ?_ | refine MW.ok Qw ?_ | intro _ | exact Fin.pure rfl | refine Fin.pure ?_ | refine Br.tt ?_ | refine Br.ff ?_ | (refine Br.mk (fun h => ?_) (fun h => ?_) <;> (try simp only [sh] at h) <;> (try first | (exfalso; omega) | exact absurd trivial h | (exfalso; simp at h; done))) | refine Ix.at ‹_› Qw ?_ | refine Ix.mapN Qw ?_ | refine Ix.mapN1 Qw ?_ | refine Ix.map Qw ?_ | refine Ix.at Qi Qw ?_ | refine Quo.nn Qw ?_ | refine Quo.t Qw ?_ | refine Rem.nn Qw ?_ | refine Rem.t Qw ?_ | refine lB (T := tab) ?_ | refine lBA (T := tab) ?_ | refine LK.askW rfl ?_ | refine s1 ?_ | refine sA ?_ | refine CK.any false Qk ?_ | fail))
  (conv => whnf); refine CK.loop [2, 3, 4, 5, 6, 7, 8, 9, 10, 11, 12, 13, 14, 15, 16, 17, 18, 19, 20, 21, 22, 23, 24, 25, 26, 27, 28, 29, 30, 31, 32, 33] (σ := Nat) (fun k => k ≤ l.length ∧ ∀ i, i < k → okS l i) (fun k => [(3, I k)]) (fun _ => []) (fun k => l.length - k) 0 ⟨Nat.zero_le _, fun i h => by omega⟩ Qy (List.nil_sublist _) ?_
  conv => whnf
  rintro k ⟨i1, i2⟩
  by_cases hk : k < l.length
  · have c1 := e4Proper_ok (l.getD k default)
    have hno : ¬ okS l k → (AV.v (.bool false)) = B (validS l) := fun h => congrArg B (Bool.eq_false_iff.2 fun e => h (validS_iff.1 e k hk)).symm
    repeat' ((conv => whnf) <;> (first | refine Must.mk (fun h => h) ?_ | refine Must.mk (fun _ => rfl) ?_ | refine Must.mk Qw ?_ | refine MW.ok Qw ?_ | intro _ | exact Fin.pure rfl | refine Br.tt ?_ | refine Br.ff ?_ | (refine Br.mk (fun h => ?_) (fun h => ?_) <;> (try simp only [sh] at h) <;> (try first | (exfalso; omega) | exact absurd trivial h | (exfalso; simp at h; done))) | refine Ix.at ‹_› Qw ?_ | refine Ix.mapN Qw ?_ | refine Ix.mapN1 Qw ?_ | refine Ix.map Qw ?_ | refine Ix.at Qi Qw ?_ | refine Quo.nn Qw ?_ | refine Quo.t Qw ?_ | refine Rem.nn Qw ?_ | refine Rem.t Qw ?_ | refine LK.callA ent89 (c1) rfl rfl (SbL.refl _) ?_ | refine Ask.callA ent89 (fun h => c1) rfl rfl (SbL.refl _) ?_ | refine LK.callA ent89 (c1) rfl rfl Ql ?_ | refine Ask.callA ent89 (fun h => c1) rfl rfl Ql ?_ | refine lB (T := tab) ?_ | refine lBA (T := tab) ?_ | refine LK.askW rfl ?_ | refine s1 ?_ | refine sA ?_ | refine CK.any false Qk ?_ | fail))
    · conv => whnf
      refine Fin.pure (hno fun e => ?_)
      rcases h with h | h
      · rw [e.1] at h; cases h
      · have := e.2; omega
    · (conv => whnf); (refine Nxt.of (k + 1) [2, 3, 4, 5, 6, 7, 8, 9, 10, 11, 12, 13, 14, 15, 16, 17, 18, 19, 20, 21, 22, 23, 24, 25, 26, 27, 28, 29, 30, 31, 32, 33] Qr Qr Qr ?_ ?_ Qy Qs <;> (try dsimp only) <;> (try omega))
      refine ⟨hk, fun i hi => ?_⟩
      by_cases e : i = k
      · subst e
        exact ⟨h.1, by omega⟩
      · exact i2 i (by omega)
  · repeat' ((conv => whnf) <;> (first | refine Must.mk (fun h => h) ?_ | refine Must.mk (fun _ => rfl) ?_ | refine Must.mk Qw ?_ | refine MW.ok Qw ?_ | intro _ | exact Fin.pure rfl | refine Br.tt ?_ | refine Br.ff ?_ | (refine Br.mk (fun h => ?_) (fun h => ?_) <;> (try simp only [sh] at h) <;> (try first | (exfalso; omega) | exact absurd trivial h | (exfalso; simp at h; done))) | refine Ix.at ‹_› Qw ?_ | refine Ix.mapN Qw ?_ | refine Ix.mapN1 Qw ?_ | refine Ix.map Qw ?_ | refine Ix.at Qi Qw ?_ | refine Quo.nn Qw ?_ | refine Quo.t Qw ?_ | refine Rem.nn Qw ?_ | refine Rem.t Qw ?_ | refine lB (T := tab) ?_ | refine lBA (T := tab) ?_ | refine LK.askW rfl ?_ | refine s1 ?_ | refine sA ?_ | refine CK.any false Qk ?_ | fail))
    conv => whnf
    exact Fin.pure (congrArg B (validS_iff.2 fun i hi => i2 i (by omega)).symm)
set_option maxHeartbeats 4000000 in
theorem e4merge_ok (a b : List Sp) (hab : a.length + b.length ≤ 1000000) (ho : (a ++ b).Pairwise fun s t => s.1 ≤ t.1) : FnA Tryz.prog 167 [.sl 2 (a.map spav), .sl 2 (b.map spav)] (.sl 2 ((a ++ b).map spav)) := by
  have hla : (a.map spav).length = a.length := by simp
  have hlb : (b.map spav).length = b.length := by simp
  refine fn_run (T := tab) Tryz.func167 rfl Tryz.ntmps167 rfl Tryz.results167 (fun _ => ?_)
  repeat' ((conv => whnf) <;> (first | refine Must.mk (fun h => h) ?_ | refine Must.mk (fun _ => rfl) ?_ | refine Must.mk Qw ?_ | refine MW.ok Qw ?_ | intro _ | exact Fin.pure rfl | refine Br.tt ?_ | refine Br.ff ?_ | (refine Br.mk (fun h => ?_) (fun h => ?_) <;> (try simp only [sh] at h) <;> (try first | (exfalso; omega) | exact absurd trivial h | (exfalso; simp at h; done))) | refine Ix.at ‹_› Qw ?_ | refine Ix.mapN Qw ?_ | refine Ix.mapN1 Qw ?_ | refine Ix.map Qw ?_ | refine Ix.at Qi Qw ?_ | refine Quo.nn Qw ?_ | refine Quo.t Qw ?_ | refine Rem.nn Qw ?_ | refine Rem.t Qw ?_ | refine lB (T := tab) ?_ | refine lBA (T := tab) ?_ | refine LK.askW rfl ?_ | refine s1 ?_ | refine sA ?_ | refine CK.any false Qk ?_ | fail))
  refine CK.nilrow 28 2 ?_
  (conv => whnf); refine CK.loopK [5, 6, 7, 8, 9, 10, 11, 12, 13, 14, 15, 16, 17, 18, 19, 20, 21, 22, 23, 24, 25, 26, 27, 28, 29, 30, 31, 32, 33, 34, 35, 36, 37, 38, 39, 40, 41, 42, 43, 44, 45, 46, 47, 48, 49, 50, 51, 52, 53, 54, 55, 56, 57, 58] (σ := Nat × Nat × Value) (fun s => s.1 ≤ a.length ∧ s.2.1 ≤ b.length ∧ (s.1 < a.length → s.2.1 = 0)) (fun ⟨i, k, v⟩ => [(6, I i), (7, I k), (5, .v v)]) (fun ⟨i, k, v⟩ => [.row v 28 2 0 false ((a.take i ++ b.take k).map spav)]) _ (fun s => a.length - s.1 + (b.length - s.2.1)) (0, 0, .slice none 0 0) ⟨Nat.zero_le _, Nat.zero_le _, fun _ => rfl⟩ Qy Qs ?_
  conv => whnf
  rintro ⟨i, k, v⟩ ⟨i1, i2, i3⟩
  simp only at i1 i2 i3
  have hla2 : ((a.take i ++ b.take k).map spav).length ≤ 1000000 := by simp; omega
  by_cases hi : i < a.length
  · obtain rfl := i3 hi
    have hset : (a.take i ++ b.take 0).map spav ++ [spav (a.getD i default)] = (a.take (i + 1) ++ b.take 0).map spav := by
      rw [List.take_succ_eq_append_getElem hi, ← getD_at hi]
      simp
    have hle : ∀ hb : 0 < b.length, (a.getD i default).1 ≤ (b.getD 0 default).1 := fun hb => by
      rw [getD_at hi, getD_at hb]
      exact (List.pairwise_append.1 ho).2.2 _ (List.getElem_mem hi) _ (List.getElem_mem hb)
    by_cases hb : 0 < b.length
    · have hle := hle hb
      repeat' ((conv => whnf) <;> (first | refine Must.mk (fun h => h) ?_ | refine Must.mk (fun _ => rfl) ?_ | refine Must.mk Qw ?_ | refine MW.ok Qw ?_ | intro _ | exact Fin.pure rfl | refine Br.tt ?_ | refine Br.ff ?_ | (refine Br.mk (fun h => ?_) (fun h => ?_) <;> (try simp only [sh] at h) <;> (try first | (exfalso; omega) | exact absurd trivial h | (exfalso; simp at h; done))) | refine Ix.at ‹_› Qw ?_ | refine Ix.mapN Qw ?_ | refine Ix.mapN1 Qw ?_ | refine Ix.map Qw ?_ | refine Ix.at Qi Qw ?_ | refine Quo.nn Qw ?_ | refine Quo.t Qw ?_ | refine Rem.nn Qw ?_ | refine Rem.t Qw ?_ | refine lB (T := tab) ?_ | refine lBA (T := tab) ?_ | refine LK.askW rfl ?_ | refine s1 ?_ | refine sA ?_ | refine pS (T := tab) ?_ | refine LK.gr (Gr.bslV (T := tab) rfl rfl rfl rfl) ?_ | refine Ask.of (Gr.bslV (T := tab) rfl rfl rfl rfl) ?_ | refine CK.any false Qk ?_ | refine CK.any true Qk ?_ | fail))
      rename_i A B' C
      (conv => whnf); (refine Nxt.of ((i + 1, 0, Value.slice A B' C)) [5, 6, 7, 8, 9, 10, 11, 12, 13, 14, 15, 16, 17, 18, 19, 20, 21, 22, 23, 24, 25, 26, 27, 28, 29, 30, 31, 32, 33, 34, 35, 36, 37, 38, 39, 40, 41, 42, 43, 44, 45, 46, 47, 48, 49, 50, 51, 52, 53, 54, 55, 56, 57, 58] Qr Qr Qr ?_ ?_ Qy ?_ <;> (try dsimp only) <;> (try omega))
      rw [← hset]
      exact Qs
    · repeat' ((conv => whnf) <;> (first | refine Must.mk (fun h => h) ?_ | refine Must.mk (fun _ => rfl) ?_ | refine Must.mk Qw ?_ | refine MW.ok Qw ?_ | intro _ | exact Fin.pure rfl | refine Br.tt ?_ | refine Br.ff ?_ | (refine Br.mk (fun h => ?_) (fun h => ?_) <;> (try simp only [sh] at h) <;> (try first | (exfalso; omega) | exact absurd trivial h | (exfalso; simp at h; done))) | refine Ix.at ‹_› Qw ?_ | refine Ix.mapN Qw ?_ | refine Ix.mapN1 Qw ?_ | refine Ix.map Qw ?_ | refine Ix.at Qi Qw ?_ | refine Quo.nn Qw ?_ | refine Quo.t Qw ?_ | refine Rem.nn Qw ?_ | refine Rem.t Qw ?_ | refine lB (T := tab) ?_ | refine lBA (T := tab) ?_ | refine LK.askW rfl ?_ | refine s1 ?_ | refine sA ?_ | refine pS (T := tab) ?_ | refine LK.gr (Gr.bslV (T := tab) rfl rfl rfl rfl) ?_ | refine Ask.of (Gr.bslV (T := tab) rfl rfl rfl rfl) ?_ | refine CK.any false Qk ?_ | refine CK.any true Qk ?_ | fail))
      rename_i A B' C
      (conv => whnf); (refine Nxt.of ((i + 1, 0, Value.slice A B' C)) [5, 6, 7, 8, 9, 10, 11, 12, 13, 14, 15, 16, 17, 18, 19, 20, 21, 22, 23, 24, 25, 26, 27, 28, 29, 30, 31, 32, 33, 34, 35, 36, 37, 38, 39, 40, 41, 42, 43, 44, 45, 46, 47, 48, 49, 50, 51, 52, 53, 54, 55, 56, 57, 58] Qr Qr Qr ?_ ?_ Qy ?_ <;> (try dsimp only) <;> (try omega))
      rw [← hset]
      exact Qs
  · by_cases hk : k < b.length
    · have hset : (a.take i ++ b.take k).map spav ++ [spav (b.getD k default)] = (a.take i ++ b.take (k + 1)).map spav := by
        rw [List.take_succ_eq_append_getElem hk, ← getD_at hk]
        simp
      repeat' ((conv => whnf) <;> (first | refine Must.mk (fun h => h) ?_ | refine Must.mk (fun _ => rfl) ?_ | refine Must.mk Qw ?_ | refine MW.ok Qw ?_ | intro _ | exact Fin.pure rfl | refine Br.tt ?_ | refine Br.ff ?_ | (refine Br.mk (fun h => ?_) (fun h => ?_) <;> (try simp only [sh] at h) <;> (try first | (exfalso; omega) | exact absurd trivial h | (exfalso; simp at h; done))) | refine Ix.at ‹_› Qw ?_ | refine Ix.mapN Qw ?_ | refine Ix.mapN1 Qw ?_ | refine Ix.map Qw ?_ | refine Ix.at Qi Qw ?_ | refine Quo.nn Qw ?_ | refine Quo.t Qw ?_ | refine Rem.nn Qw ?_ | refine Rem.t Qw ?_ | refine lB (T := tab) ?_ | refine lBA (T := tab) ?_ | refine LK.askW rfl ?_ | refine s1 ?_ | refine sA ?_ | refine pS (T := tab) ?_ | refine LK.gr (Gr.bslV (T := tab) rfl rfl rfl rfl) ?_ | refine Ask.of (Gr.bslV (T := tab) rfl rfl rfl rfl) ?_ | refine CK.any false Qk ?_ | refine CK.any true Qk ?_ | fail))
      rename_i A B' C
      (conv => whnf); (refine Nxt.of ((i, k + 1, Value.slice A B' C)) [5, 6, 7, 8, 9, 10, 11, 12, 13, 14, 15, 16, 17, 18, 19, 20, 21, 22, 23, 24, 25, 26, 27, 28, 29, 30, 31, 32, 33, 34, 35, 36, 37, 38, 39, 40, 41, 42, 43, 44, 45, 46, 47, 48, 49, 50, 51, 52, 53, 54, 55, 56, 57, 58] Qr Qr Qr ?_ ?_ Qy ?_ <;> (try dsimp only) <;> (try omega))
      rw [← hset]
      exact Qs
    · have e1 : a.take i ++ b.take k = a ++ b := by rw [List.take_of_length_le (by omega), List.take_of_length_le (by omega)]
      dsimp only
      rw [e1]
      repeat' ((conv => whnf) <;> (first | refine Must.mk (fun h => h) ?_ | refine Must.mk (fun _ => rfl) ?_ | refine Must.mk Qw ?_ | refine MW.ok Qw ?_ | intro _ | exact Fin.pure rfl | refine Br.tt ?_ | refine Br.ff ?_ | (refine Br.mk (fun h => ?_) (fun h => ?_) <;> (try simp only [sh] at h) <;> (try first | (exfalso; omega) | exact absurd trivial h | (exfalso; simp at h; done))) | refine Ix.at ‹_› Qw ?_ | refine Ix.mapN Qw ?_ | refine Ix.mapN1 Qw ?_ | refine Ix.map Qw ?_ | refine Ix.at Qi Qw ?_ | refine Quo.nn Qw ?_ | refine Quo.t Qw ?_ | refine Rem.nn Qw ?_ | refine Rem.t Qw ?_ | refine lB (T := tab) ?_ | refine lBA (T := tab) ?_ | refine LK.askW rfl ?_ | refine s1 ?_ | refine sA ?_ | refine CK.any false Qk ?_ | fail))
      conv => whnf
      refine Fin.frzR 0 rfl ?_
      exact Fin.seeP Qz
theorem e4sorted_ok : ∀ (n : Nat) (l : List Sp), l.length ≤ n → l.length ≤ 1000000 → (l.Pairwise fun s t => s.1 ≤ t.1) → FnA Tryz.prog 163 [.sl 2 (l.map spav)] (.sl 2 (l.map spav))
  | 0, l, hn, _, _ => by
    have hll : (l.map spav).length = l.length := by simp
    refine fn_run (T := tab) Tryz.func163 rfl Tryz.ntmps163 rfl Tryz.results163 (fun _ => ?_)
    repeat' ((conv => whnf) <;> (first | refine Must.mk (fun h => h) ?_ | refine Must.mk (fun _ => rfl) ?_ | refine Must.mk Qw ?_ | refine MW.ok Qw ?_ | intro _ | exact Fin.pure rfl | refine Fin.pure ?_ | refine Br.tt ?_ | refine Br.ff ?_ | (refine Br.mk (fun h => ?_) (fun h => ?_) <;> (try simp only [sh] at h) <;> (try first | (exfalso; omega) | exact absurd trivial h | (exfalso; simp at h; done))) | refine Ix.at ‹_› Qw ?_ | refine Ix.mapN Qw ?_ | refine Ix.mapN1 Qw ?_ | refine Ix.map Qw ?_ | refine Ix.at Qi Qw ?_ | refine Quo.nn Qw ?_ | refine Quo.t Qw ?_ | refine Rem.nn Qw ?_ | refine Rem.t Qw ?_ | refine lB (T := tab) ?_ | refine lBA (T := tab) ?_ | refine LK.askW rfl ?_ | refine s1 ?_ | refine sA ?_ | refine CK.any false Qk ?_ | fail))
  | n + 1, l, hn, hl, ho => by
    have hll : (l.map spav).length = l.length := by simp
    by_cases h2 : l.length < 2
    · refine fn_run (T := tab) Tryz.func163 rfl Tryz.ntmps163 rfl Tryz.results163 (fun _ => ?_)
      repeat' ((conv => whnf) <;> (first | refine Must.mk (fun h => h) ?_ | refine Must.mk (fun _ => rfl) ?_ | refine Must.mk Qw ?_ | refine MW.ok Qw ?_ | intro _ | exact Fin.pure rfl | refine Fin.pure ?_ | refine Br.tt ?_ | refine Br.ff ?_ | (refine Br.mk (fun h => ?_) (fun h => ?_) <;> (try simp only [sh] at h) <;> (try first | (exfalso; omega) | exact absurd trivial h | (exfalso; simp at h; done))) | refine Ix.at ‹_› Qw ?_ | refine Ix.mapN Qw ?_ | refine Ix.mapN1 Qw ?_ | refine Ix.map Qw ?_ | refine Ix.at Qi Qw ?_ | refine Quo.nn Qw ?_ | refine Quo.t Qw ?_ | refine Rem.nn Qw ?_ | refine Rem.t Qw ?_ | refine lB (T := tab) ?_ | refine lBA (T := tab) ?_ | refine LK.askW rfl ?_ | refine s1 ?_ | refine sA ?_ | refine CK.any false Qk ?_ | fail))
    · have h3 : (((l.map spav).length : Int) / 2).toNat = l.length / 2 := by rw [hll]; omega
      have c1 := e4sorted_ok n (l.take (l.length / 2)) (by simp; omega) (by simp; omega) (ho.sublist (List.take_sublist _ _))
      have c2 := e4sorted_ok n (l.drop (l.length / 2)) (by simp; omega) (by simp; omega) (ho.sublist (List.drop_sublist _ _))
      have c3 := e4merge_ok (l.take (l.length / 2)) (l.drop (l.length / 2)) (by simp; omega) (by rw [List.take_append_drop]; exact ho)
      rw [List.take_append_drop] at c3
      rw [List.map_take, ← h3] at c1
      rw [List.map_drop, ← h3] at c2
      rw [List.map_take, List.map_drop, ← h3] at c3
      refine fn_run (T := tab) Tryz.func163 rfl Tryz.ntmps163 rfl Tryz.results163 (fun _ => ?_)
      repeat' ((conv => whnf) <;> (first | refine Must.mk (fun h => h) ?_ | refine Must.mk (fun _ => rfl) ?_ | refine Must.mk Qw ?_ | refine MW.ok Qw ?_ | intro _ | exact Fin.pure rfl | refine Br.tt ?_ | refine Br.ff ?_ | (refine Br.mk (fun h => ?_) (fun h => ?_) <;> (try simp only [sh] at h) <;> (try first | (exfalso; omega) | exact absurd trivial h | (exfalso; simp at h; done))) | refine Ix.at ‹_› Qw ?_ | refine Ix.mapN Qw ?_ | refine Ix.mapN1 Qw ?_ | refine Ix.map Qw ?_ | refine Ix.at Qi Qw ?_ | refine Quo.nn Qw ?_ | refine Quo.t Qw ?_ | refine Rem.nn Qw ?_ | refine Rem.t Qw ?_ | refine LK.callA ent163 (c1) rfl rfl (SbL.refl _) ?_ | refine Ask.callA ent163 (fun h => c1) rfl rfl (SbL.refl _) ?_ | refine LK.callA ent163 (c1) rfl rfl Ql ?_ | refine Ask.callA ent163 (fun h => c1) rfl rfl Ql ?_ | refine LK.callA ent163 (c2) rfl rfl (SbL.refl _) ?_ | refine Ask.callA ent163 (fun h => c2) rfl rfl (SbL.refl _) ?_ | refine LK.callA ent163 (c2) rfl rfl Ql ?_ | refine Ask.callA ent163 (fun h => c2) rfl rfl Ql ?_ | refine LK.callA ent167 (c3) rfl rfl (SbL.refl _) ?_ | refine Ask.callA ent167 (fun h => c3) rfl rfl (SbL.refl _) ?_ | refine LK.callA ent167 (c3) rfl rfl Ql ?_ | refine Ask.callA ent167 (fun h => c3) rfl rfl Ql ?_ | refine lB (T := tab) ?_ | refine lBA (T := tab) ?_ | refine LK.askW rfl ?_ | refine s1 ?_ | refine sA ?_ | refine CK.any false Qk ?_ | fail))
      all_goals skip
theorem valid_asc {l : List Sp} (h : validS l = true) : l.Pairwise fun s t => s.1 ≤ t.1 := by
  rw [List.pairwise_iff_getElem]
  intro i j hi hj hij
  have h1 := validS_iff.1 h
  have h2 : ∀ k, i ≤ k → k < l.length → (l.getD i default).1 ≤ (l.getD k default).1 := fun k hk hkl => by
    induction k with
    | zero => rw [show i = 0 by omega]; exact Int.le_refl _
    | succ k ih =>
      by_cases e : i = k + 1
      · rw [e]; exact Int.le_refl _
      · have a := ih (by omega) (by omega)
        have b := (h1 (k + 1) hkl).2.resolve_left (by omega)
        have c := (h1 k (by omega)).1
        unfold prp at c
        simp only [Bool.and_eq_true, decide_eq_true_eq, Nat.add_sub_cancel] at b c
        omega
  have := h2 j (by omega) hj
  rwa [getD_at hi, getD_at hj] at this
theorem e4Normal_ok (l : List Sp) (hl : l.length ≤ 1000000) (hv : validS l = true) : FnA Tryz.prog 156 [.sl 2 (l.map spav)] (.sl 2 (l.map spav)) := by
  have hll : (l.map spav).length = l.length := by simp
  have c1 := e4sorted_ok l.length l (Nat.le_refl _) hl (valid_asc hv)
  refine fn_run (T := tab) Tryz.func156 rfl Tryz.ntmps156 rfl Tryz.results156 (fun _ => ?_)
  repeat' ((conv => whnf) <;> (first | refine Must.mk (fun h => h) ?_ | refine Must.mk (fun _ => rfl) ?_ | refine Must.mk Qw ?_ | refine MW.ok Qw ?_ | intro _ | exact Fin.pure rfl | refine Br.tt ?_ | refine Br.ff ?_ | (refine Br.mk (fun h => ?_) (fun h => ?_) <;> (try simp only [sh] at h) <;> (try first | (exfalso; omega) | exact absurd trivial h | (exfalso; simp at h; done))) | refine Ix.at ‹_› Qw ?_ | refine Ix.mapN Qw ?_ | refine Ix.mapN1 Qw ?_ | refine Ix.map Qw ?_ | refine Ix.at Qi Qw ?_ | refine Quo.nn Qw ?_ | refine Quo.t Qw ?_ | refine Rem.nn Qw ?_ | refine Rem.t Qw ?_ | refine LK.callA ent163 (c1) rfl rfl (SbL.refl _) ?_ | refine Ask.callA ent163 (fun h => c1) rfl rfl (SbL.refl _) ?_ | refine LK.callA ent163 (c1) rfl rfl Ql ?_ | refine Ask.callA ent163 (fun h => c1) rfl rfl Ql ?_ | refine lB (T := tab) ?_ | refine lBA (T := tab) ?_ | refine LK.askW rfl ?_ | refine s1 ?_ | refine sA ?_ | refine CK.any false Qk ?_ | fail))
  refine CK.nilrow 28 2 ?_
  (conv => whnf); refine CK.loopK [3, 5, 6, 9, 10, 11, 12, 13, 14, 15, 16, 17, 18, 19, 20, 21, 22, 23, 24, 25, 26, 27, 28, 29, 30, 31, 32, 33, 34, 35, 36, 37, 38, 39, 40, 41, 42, 43, 44, 45, 46, 47, 48, 49, 50, 51, 52, 53, 54, 55, 56, 57, 58, 59, 60, 61, 62] (σ := Nat × Value) (fun s => s.1 ≤ l.length) (fun ⟨i, v⟩ => [(5, I i), (3, .v v)]) (fun ⟨i, v⟩ => [.row v 28 2 0 false ((l.take i).map spav)]) _ (fun s => l.length - s.1) (0, .slice none 0 0) (Nat.zero_le _) Qy Qs ?_
  conv => whnf
  rintro ⟨i, v⟩ i1
  simp only at i1
  have hlt : ((l.take i).map spav).length = i := by simp; omega
  have hlt2 : (l.take i).length = i := by simp; omega
  by_cases hi : i < l.length
  · have hs := validS_iff.1 hv i hi
    have c2 := e4Proper_ok (l.getD i default)
    rw [hs.1] at c2
    have hset : (l.take i).map spav ++ [spav (l.getD i default)] = (l.take (i + 1)).map spav := by
      rw [List.take_succ_eq_append_getElem hi, ← getD_at hi]
      simp
    have hgap : 0 < i → ((l.take i).getD ((l.take i).length - 1) default).2 < (l.getD i default).1 := fun h0 => by
      have : i - 1 < (l.take i).length := by simp; omega
      have e : (l.take i).getD ((l.take i).length - 1) default = l.getD (i - 1) default := by
        rw [hlt2, getD_at this, getD_at (show i - 1 < l.length by omega)]
        simp
      rw [e]
      exact hs.2.resolve_left (by omega)
    repeat' ((conv => whnf) <;> (first | refine Must.mk (fun h => h) ?_ | refine Must.mk (fun _ => rfl) ?_ | refine Must.mk Qw ?_ | refine MW.ok Qw ?_ | intro _ | exact Fin.pure rfl | refine Br.tt ?_ | refine Br.ff ?_ | (refine Br.mk (fun h => ?_) (fun h => ?_) <;> (try simp only [sh] at h) <;> (try first | (exfalso; omega) | exact absurd trivial h | (exfalso; simp at h; done))) | refine Ix.at ‹_› Qw ?_ | refine Ix.mapN Qw ?_ | refine Ix.mapN1 Qw ?_ | refine Ix.map Qw ?_ | refine Ix.at Qi Qw ?_ | refine Quo.nn Qw ?_ | refine Quo.t Qw ?_ | refine Rem.nn Qw ?_ | refine Rem.t Qw ?_ | refine LK.callA ent89 (c2) rfl rfl (SbL.refl _) ?_ | refine Ask.callA ent89 (fun h => c2) rfl rfl (SbL.refl _) ?_ | refine LK.callA ent89 (c2) rfl rfl Ql ?_ | refine Ask.callA ent89 (fun h => c2) rfl rfl Ql ?_ | refine lB (T := tab) ?_ | refine lBA (T := tab) ?_ | refine lM (T := tab) ?_ | refine lM0 (T := tab) ?_ | refine lMA (T := tab) ?_ | refine sM ?_ | refine nR (T := tab) ?_ | refine iR (T := tab) ?_ | refine lR (T := tab) ?_ | refine lR0 (T := tab) ?_ | refine lRA (T := tab) ?_ | refine LK.askW rfl ?_ | refine s1 ?_ | refine sA ?_ | refine pS (T := tab) ?_ | refine LK.bsl rfl rfl rfl rfl ?_ | (refine LK.frzR 0 rfl ?_ <;> refine pF ?_) | refine pA ?_ | refine sR ?_ | refine LK.gr (Gr.bslV (T := tab) rfl rfl rfl rfl) ?_ | refine Ask.of (Gr.bslV (T := tab) rfl rfl rfl rfl) ?_ | refine CK.any false Qk ?_ | refine CK.any true Qk ?_ | fail))
    rename_i v1 v2
    (conv => whnf); (refine Nxt.of ((i + 1, v2)) [3, 5, 6, 9, 10, 11, 12, 13, 14, 15, 16, 17, 18, 19, 20, 21, 22, 23, 24, 25, 26, 27, 28, 29, 30, 31, 32, 33, 34, 35, 36, 37, 38, 39, 40, 41, 42, 43, 44, 45, 46, 47, 48, 49, 50, 51, 52, 53, 54, 55, 56, 57, 58, 59, 60, 61, 62] Qr Qr Qr ?_ ?_ Qy ?_ <;> (try dsimp only) <;> (try omega))
    rw [← hset]
    exact Qs
  · dsimp only
    rw [List.take_of_length_le (by omega)] at hlt ⊢
    repeat' ((conv => whnf) <;> (first | refine Must.mk (fun h => h) ?_ | refine Must.mk (fun _ => rfl) ?_ | refine Must.mk Qw ?_ | refine MW.ok Qw ?_ | intro _ | exact Fin.pure rfl | refine Br.tt ?_ | refine Br.ff ?_ | (refine Br.mk (fun h => ?_) (fun h => ?_) <;> (try simp only [sh] at h) <;> (try first | (exfalso; omega) | exact absurd trivial h | (exfalso; simp at h; done))) | refine Ix.at ‹_› Qw ?_ | refine Ix.mapN Qw ?_ | refine Ix.mapN1 Qw ?_ | refine Ix.map Qw ?_ | refine Ix.at Qi Qw ?_ | refine Quo.nn Qw ?_ | refine Quo.t Qw ?_ | refine Rem.nn Qw ?_ | refine Rem.t Qw ?_ | refine lB (T := tab) ?_ | refine lBA (T := tab) ?_ | refine LK.askW rfl ?_ | refine s1 ?_ | refine sA ?_ | refine CK.any false Qk ?_ | fail))
    conv => whnf
    refine Fin.frzR 0 rfl ?_
    exact Fin.seeP Qz
def ovS (s t : Sp) : Bool := prp t && prp s && decide (t.1 < s.2) && decide (s.1 < t.2)
theorem any_snoc {α : Type} [Inhabited α] {f : α → Bool} {l : List α} {i : Nat} (h : i < l.length) : (l.take (i + 1)).any f = ((l.take i).any f || f (l.getD i default)) := by
  rw [List.take_succ_eq_append_getElem h, List.any_append, ← getD_at h]
  simp
set_option maxHeartbeats 4000000 in
theorem e4Meet_ok (a : List Sp) (s : Sp) (ha : a.length ≤ 1000000) (hv : validS a = true) (hs : prp s = true) : FnE Tryz.prog 139 [.sl 2 (a.map spav), .sl 2 [spav s]] fun r E => E = [] ∧ ∃ m : List Sp, r = .sl 2 (m.map spav) ∧ decide (0 < m.length) = meetB a s := by
  have hla : (a.map spav).length = a.length := by simp
  have c1 := e4Normal_ok a ha hv
  have c2 := e4Normal_ok [s] (by simp) (validS_iff.2 fun i hi => by
    have : i = 0 := by simpa using hi
    subst this
    exact ⟨hs, .inl rfl⟩)
  refine fn_run (T := tab) Tryz.func139 rfl Tryz.ntmps139 rfl Tryz.results139 (fun _ => ?_)
  repeat' ((conv => whnf) <;> (first | refine Must.mk (fun h => h) ?_ | refine Must.mk (fun _ => rfl) ?_ | refine Must.mk Qw ?_ | refine MW.ok Qw ?_ | intro _ | exact Fin.pure rfl | refine Br.tt ?_ | refine Br.ff ?_ | (refine Br.mk (fun h => ?_) (fun h => ?_) <;> (try simp only [sh] at h) <;> (try first | (exfalso; omega) | exact absurd trivial h | (exfalso; simp at h; done))) | refine Ix.at ‹_› Qw ?_ | refine Ix.mapN Qw ?_ | refine Ix.mapN1 Qw ?_ | refine Ix.map Qw ?_ | refine Ix.at Qi Qw ?_ | refine Quo.nn Qw ?_ | refine Quo.t Qw ?_ | refine Rem.nn Qw ?_ | refine Rem.t Qw ?_ | refine LK.callA ent156 (c1) rfl rfl (SbL.refl _) ?_ | refine Ask.callA ent156 (fun h => c1) rfl rfl (SbL.refl _) ?_ | refine LK.callA ent156 (c1) rfl rfl Ql ?_ | refine Ask.callA ent156 (fun h => c1) rfl rfl Ql ?_ | refine LK.callA ent156 (c2) rfl rfl (SbL.refl _) ?_ | refine Ask.callA ent156 (fun h => c2) rfl rfl (SbL.refl _) ?_ | refine LK.callA ent156 (c2) rfl rfl Ql ?_ | refine Ask.callA ent156 (fun h => c2) rfl rfl Ql ?_ | refine lB (T := tab) ?_ | refine lBA (T := tab) ?_ | refine LK.askW rfl ?_ | refine s1 ?_ | refine sA ?_ | refine CK.any false Qk ?_ | fail))
  refine CK.nilrow 28 2 ?_
  (conv => whnf); refine CK.loopK [7, 8, 9, 10, 15, 16, 17, 18, 19, 20, 21, 22, 23, 24, 25, 26, 27, 28, 29, 30, 31, 32, 33, 34, 35, 36, 37, 38, 39, 40, 41, 42, 43, 44, 45, 46, 47, 48, 49, 50, 51, 52, 53, 54, 55, 56, 57, 58, 59, 60, 61, 62, 63, 64, 65, 66, 67, 68, 69, 70, 71] (σ := Nat × Nat × Value × List Sp) (fun q => q.1 ≤ a.length ∧ q.2.1 ≤ 1 ∧ q.2.2.2.length ≤ q.1 + q.2.1 ∧ (q.2.1 = 1 → q.1 < a.length ∧ s.2 ≤ (a.getD q.1 default).2) ∧ decide (0 < q.2.2.2.length) = (a.take (q.1 + q.2.1)).any (ovS s)) (fun ⟨i, k, v, _⟩ => [(8, I i), (9, I k), (7, .v v)]) (fun ⟨_, _, v, m⟩ => [.row v 28 2 0 false (m.map spav)]) _ (fun q => a.length - q.1 + (1 - q.2.1)) (0, 0, .slice none 0 0, []) ⟨Nat.zero_le _, Nat.zero_le _, Nat.zero_le _, fun h => by simp at h, by simp⟩ Qy Qs ?_
  conv => whnf
  rintro ⟨i, k, v, m⟩ ⟨i1, i2, i3, i4, i5⟩
  simp only at i1 i2 i3 i4 i5
  have hlm : (m.map spav).length = m.length := by simp
  have hl1 : [s].length = 1 := rfl
  have hl2 : ([s].map spav).length = 1 := rfl
  have hme : meetB a s = a.any (ovS s) := rfl
  by_cases hi : i < a.length
  · by_cases hk : k = 0
    · subst hk
      have hp := (validS_iff.1 hv i hi).1
      have hst := any_snoc (f := ovS s) hi
      have hov : ovS s (a.getD i default) = (decide ((a.getD i default).1 < s.2) && decide (s.1 < (a.getD i default).2)) := by
        unfold ovS
        rw [hp, hs]
        rfl
      have hpl := prp_lt hp
      have hsl := prp_lt hs
      rw [Nat.add_zero] at i5
      rw [← i5, hov] at hst
      have hs0 : [s].getD 0 default = s := rfl
      repeat' ((conv => whnf) <;> (first | refine CK.anyK [0, 1, 2, 3, 4, 5, 6, 7, 8, 9, 10, 11, 12, 13, 14, 15, 16, 17, 18, 19, 20, 21, 22] [23, 24] _ (List.Sublist.refl _) Qk ?_ | refine Must.mk (fun h => h) ?_ | refine Must.mk (fun _ => rfl) ?_ | refine Must.mk Qw ?_ | refine MW.ok Qw ?_ | intro _ | exact Fin.pure rfl | refine Br.tt ?_ | refine Br.ff ?_ | (refine Br.mk (fun h => ?_) (fun h => ?_) <;> (try simp only [sh] at h) <;> (try first | (exfalso; omega) | exact absurd trivial h | (exfalso; simp at h; done))) | refine Ix.at ‹_› Qw ?_ | refine Ix.mapN Qw ?_ | refine Ix.mapN1 Qw ?_ | refine Ix.map Qw ?_ | refine Ix.at Qi Qw ?_ | refine Quo.nn Qw ?_ | refine Quo.t Qw ?_ | refine Rem.nn Qw ?_ | refine Rem.t Qw ?_ | refine lB (T := tab) ?_ | refine lBA (T := tab) ?_ | refine LK.askW rfl ?_ | refine s1 ?_ | refine sA ?_ | refine pS (T := tab) ?_ | refine LK.gr (Gr.bslV (T := tab) rfl rfl rfl rfl) ?_ | refine Ask.of (Gr.bslV (T := tab) rfl rfl rfl rfl) ?_ | refine Kx.nil ?_ | refine Kx.stp (T := tab) rfl rfl Qs ?_ | refine kA (T := tab) ?_ | refine kS (T := tab) ?_ | (refine Kx.frzR 0 rfl ?_ <;> refine kF (T := tab) ?_) | refine kP (T := tab) ?_ | refine k1 (T := tab) ?_ | refine kB (T := tab) ?_ | refine kL (T := tab) ?_ | refine CK.any false Qk ?_ | refine CK.any true Qk ?_ | fail))
      · rename_i h5 A B' C
        simp only [hs0] at h h5 ⊢
        rw [decide_eq_true (show (a.getD i default).1 < s.2 by omega), decide_eq_true (show s.1 < (a.getD i default).2 by omega)] at hst
        (conv => whnf); (refine Nxt.of ((i + 1, 0, Value.slice A B' C, m ++ [(max (a.getD i default).1 s.1, min (a.getD i default).2 s.2)])) [7, 8, 9, 10, 15, 16, 17, 18, 19, 20, 21, 22, 23, 24, 25, 26, 27, 28, 29, 30, 31, 32, 33, 34, 35, 36, 37, 38, 39, 40, 41, 42, 43, 44, 45, 46, 47, 48, 49, 50, 51, 52, 53, 54, 55, 56, 57, 58, 59, 60, 61, 62, 63, 64, 65, 66, 67, 68, 69, 70, 71] Qr Qr Qr ?_ ?_ Qy ?_ <;> (try dsimp only) <;> (try omega))
        · refine ⟨by omega, by omega, by rw [List.length_append]; simp; omega, fun h => by omega, ?_⟩
          rw [Nat.add_zero, hst]; simp
        · rw [List.map_append]; exact Qs
      · rename_i h5 A B' C
        simp only [hs0] at h h5 ⊢
        rw [decide_eq_true (show (a.getD i default).1 < s.2 by omega), decide_eq_true (show s.1 < (a.getD i default).2 by omega)] at hst
        (conv => whnf); (refine Nxt.of ((i, 1, Value.slice A B' C, m ++ [(max (a.getD i default).1 s.1, min (a.getD i default).2 s.2)])) [7, 8, 9, 10, 15, 16, 17, 18, 19, 20, 21, 22, 23, 24, 25, 26, 27, 28, 29, 30, 31, 32, 33, 34, 35, 36, 37, 38, 39, 40, 41, 42, 43, 44, 45, 46, 47, 48, 49, 50, 51, 52, 53, 54, 55, 56, 57, 58, 59, 60, 61, 62, 63, 64, 65, 66, 67, 68, 69, 70, 71] Qr Qr Qr ?_ ?_ Qy ?_ <;> (try dsimp only) <;> (try omega))
        · refine ⟨by omega, by omega, by rw [List.length_append]; simp; omega, fun _ => ⟨hi, by omega⟩, ?_⟩
          rw [hst]; simp
        · rw [List.map_append]; exact Qs
      · rename_i h5
        simp only [hs0] at h h5 ⊢
        have hb : (decide ((a.getD i default).1 < s.2) && decide (s.1 < (a.getD i default).2)) = false := by
          rw [← Bool.not_eq_true, Bool.and_eq_true_iff, decide_eq_true_eq, decide_eq_true_eq]
          omega
        rw [hb, Bool.or_false] at hst
        (conv => whnf); (refine Nxt.of ((i + 1, 0, v, m)) [7, 8, 9, 10, 15, 16, 17, 18, 19, 20, 21, 22, 23, 24, 25, 26, 27, 28, 29, 30, 31, 32, 33, 34, 35, 36, 37, 38, 39, 40, 41, 42, 43, 44, 45, 46, 47, 48, 49, 50, 51, 52, 53, 54, 55, 56, 57, 58, 59, 60, 61, 62, 63, 64, 65, 66, 67, 68, 69, 70, 71] Qr Qr Qr ?_ ?_ Qy Qs <;> (try dsimp only) <;> (try omega))
        exact ⟨by omega, by omega, by omega, fun h => by omega, hst.symm⟩
      · rename_i h5
        simp only [hs0] at h h5 ⊢
        have hb : (decide ((a.getD i default).1 < s.2) && decide (s.1 < (a.getD i default).2)) = false := by
          rw [← Bool.not_eq_true, Bool.and_eq_true_iff, decide_eq_true_eq, decide_eq_true_eq]
          omega
        rw [hb, Bool.or_false] at hst
        (conv => whnf); (refine Nxt.of ((i, 1, v, m)) [7, 8, 9, 10, 15, 16, 17, 18, 19, 20, 21, 22, 23, 24, 25, 26, 27, 28, 29, 30, 31, 32, 33, 34, 35, 36, 37, 38, 39, 40, 41, 42, 43, 44, 45, 46, 47, 48, 49, 50, 51, 52, 53, 54, 55, 56, 57, 58, 59, 60, 61, 62, 63, 64, 65, 66, 67, 68, 69, 70, 71] Qr Qr Qr ?_ ?_ Qy Qs <;> (try dsimp only) <;> (try omega))
        exact ⟨by omega, by omega, by omega, fun _ => ⟨hi, by omega⟩, hst.symm⟩
    · have : k = 1 := by omega
      subst this
      have h4 := i4 rfl
      have hall : (a.take (i + 1)).any (ovS s) = a.any (ovS s) := by
        conv => rhs; rw [← List.take_append_drop (i + 1) a]
        rw [List.any_append]
        have : (a.drop (i + 1)).any (ovS s) = false := by
          rw [List.any_eq_false]
          intro t ht
          obtain ⟨j, hj, rfl⟩ := List.mem_iff_getElem.1 ht
          rw [List.getElem_drop]
          rw [List.length_drop] at hj
          have h9 : ∀ d, i + 1 + d < a.length → (a.getD i default).2 < (a.getD (i + 1 + d) default).1 := fun d hd => by
            induction d with
            | zero => exact (validS_iff.1 hv (i + 1) hd).2.resolve_left (by omega)
            | succ d ih =>
              have a1 := ih (by omega)
              have a2 := (validS_iff.1 hv (i + 1 + (d + 1)) hd).2.resolve_left (by omega)
              have a3 := prp_lt (validS_iff.1 hv (i + 1 + d) (by omega)).1
              rw [show i + 1 + (d + 1) - 1 = i + 1 + d by omega] at a2
              omega
          have h10 := h9 j (by omega)
          rw [getD_at (show i + 1 + j < a.length by omega)] at h10
          unfold ovS
          simp only [Bool.and_eq_true, decide_eq_true_eq, not_and]
          omega
        rw [this, Bool.or_false]
      rw [hall] at i5
      repeat' ((conv => whnf) <;> (first | refine Must.mk (fun h => h) ?_ | refine Must.mk (fun _ => rfl) ?_ | refine Must.mk Qw ?_ | refine MW.ok Qw ?_ | intro _ | exact Fin.pure rfl | refine Br.tt ?_ | refine Br.ff ?_ | (refine Br.mk (fun h => ?_) (fun h => ?_) <;> (try simp only [sh] at h) <;> (try first | (exfalso; omega) | exact absurd trivial h | (exfalso; simp at h; done))) | refine Ix.at ‹_› Qw ?_ | refine Ix.mapN Qw ?_ | refine Ix.mapN1 Qw ?_ | refine Ix.map Qw ?_ | refine Ix.at Qi Qw ?_ | refine Quo.nn Qw ?_ | refine Quo.t Qw ?_ | refine Rem.nn Qw ?_ | refine Rem.t Qw ?_ | refine lB (T := tab) ?_ | refine lBA (T := tab) ?_ | refine LK.askW rfl ?_ | refine s1 ?_ | refine sA ?_ | refine CK.any false Qk ?_ | fail))
      conv => whnf
      refine Fin.frzR 0 rfl ?_
      exact Fin.see (Sb.row 0 rfl) (.out _ (List.nil_sublist _) ⟨rfl, m, rfl, i5⟩)
  · have : k = 0 := by
      apply Classical.byContradiction
      intro h
      exact hi (i4 (by omega)).1
    subst this
    rw [Nat.add_zero, List.take_of_length_le (by omega)] at i5
    repeat' ((conv => whnf) <;> (first | refine Must.mk (fun h => h) ?_ | refine Must.mk (fun _ => rfl) ?_ | refine Must.mk Qw ?_ | refine MW.ok Qw ?_ | intro _ | exact Fin.pure rfl | refine Br.tt ?_ | refine Br.ff ?_ | (refine Br.mk (fun h => ?_) (fun h => ?_) <;> (try simp only [sh] at h) <;> (try first | (exfalso; omega) | exact absurd trivial h | (exfalso; simp at h; done))) | refine Ix.at ‹_› Qw ?_ | refine Ix.mapN Qw ?_ | refine Ix.mapN1 Qw ?_ | refine Ix.map Qw ?_ | refine Ix.at Qi Qw ?_ | refine Quo.nn Qw ?_ | refine Quo.t Qw ?_ | refine Rem.nn Qw ?_ | refine Rem.t Qw ?_ | refine lB (T := tab) ?_ | refine lBA (T := tab) ?_ | refine LK.askW rfl ?_ | refine s1 ?_ | refine sA ?_ | refine CK.any false Qk ?_ | fail))
    conv => whnf
    refine Fin.frzR 0 rfl ?_
    exact Fin.see (Sb.row 0 rfl) (.out _ (List.nil_sublist _) ⟨rfl, m, rfl, i5⟩)
theorem e7Valid_ok (d : Du) : FnA Tryz.prog 63 [duav d] (B (duB d)) := by
  refine fn_run (T := tab) Tryz.func63 rfl Tryz.ntmps63 rfl Tryz.results63 (fun _ => ?_)
  repeat' ((conv => whnf) <;> (first | refine Must.mk (fun h => h) ?_ | refine Must.mk (fun _ => rfl) ?_ | refine Must.mk Qw ?_ | refine MW.ok Qw ?_ | intro _ | exact Fin.pure rfl | refine Fin.pure ?_ | refine Br.tt ?_ | refine Br.ff ?_ | (refine Br.mk (fun h => ?_) (fun h => ?_) <;> (try simp only [sh] at h) <;> (try first | (exfalso; omega) | exact absurd trivial h | (exfalso; simp at h; done))) | refine Ix.at ‹_› Qw ?_ | refine Ix.mapN Qw ?_ | refine Ix.mapN1 Qw ?_ | refine Ix.map Qw ?_ | refine Ix.at Qi Qw ?_ | refine Quo.nn Qw ?_ | refine Quo.t Qw ?_ | refine Rem.nn Qw ?_ | refine Rem.t Qw ?_ | refine lB (T := tab) ?_ | refine lBA (T := tab) ?_ | refine LK.askW rfl ?_ | refine s1 ?_ | refine sA ?_ | refine CK.any false Qk ?_ | fail))
  all_goals (refine congrArg B ?_; unfold duB; rw [Bool.eq_iff_iff]; simp only [Bool.and_eq_true, decide_eq_true_eq, Bool.false_eq_true, false_iff]; omega)
theorem e7Rest_ok (a b : Du) : FnA Tryz.prog 124 [duav a, duav b] (I (restR a b)) := by
  have c1 := e7Valid_ok a
  have c2 := e7Valid_ok b
  by_cases hv : duB a = true ∧ duB b = true
  · have h1 := duB_bd hv.1
    have h2 := duB_bd hv.2
    rw [hv.1] at c1
    rw [hv.2] at c2
    have e : restR a b = if b.frm < a.frm then max (a.frm - b.to_) (-1) else max (b.frm - a.to_) (-1) := by rw [restR, hv.1, hv.2]; rfl
    rw [e]
    refine fn_run (T := tab) Tryz.func124 rfl Tryz.ntmps124 rfl Tryz.results124 (fun _ => ?_)
    repeat' ((conv => whnf) <;> (first | refine Must.mk (fun h => h) ?_ | refine Must.mk (fun _ => rfl) ?_ | refine Must.mk Qw ?_ | refine MW.ok Qw ?_ | intro _ | exact Fin.pure rfl | refine Br.tt ?_ | refine Br.ff ?_ | (refine Br.mk (fun h => ?_) (fun h => ?_) <;> (try simp only [sh] at h) <;> (try first | (exfalso; omega) | exact absurd trivial h | (exfalso; simp at h; done))) | refine Ix.at ‹_› Qw ?_ | refine Ix.mapN Qw ?_ | refine Ix.mapN1 Qw ?_ | refine Ix.map Qw ?_ | refine Ix.at Qi Qw ?_ | refine Quo.nn Qw ?_ | refine Quo.t Qw ?_ | refine Rem.nn Qw ?_ | refine Rem.t Qw ?_ | refine LK.callA ent63 (c1) rfl rfl (SbL.refl _) ?_ | refine Ask.callA ent63 (fun h => c1) rfl rfl (SbL.refl _) ?_ | refine LK.callA ent63 (c1) rfl rfl Ql ?_ | refine Ask.callA ent63 (fun h => c1) rfl rfl Ql ?_ | refine LK.callA ent63 (c2) rfl rfl (SbL.refl _) ?_ | refine Ask.callA ent63 (fun h => c2) rfl rfl (SbL.refl _) ?_ | refine LK.callA ent63 (c2) rfl rfl Ql ?_ | refine Ask.callA ent63 (fun h => c2) rfl rfl Ql ?_ | refine lB (T := tab) ?_ | refine lBA (T := tab) ?_ | refine LK.askW rfl ?_ | refine s1 ?_ | refine sA ?_ | refine CK.any false Qk ?_ | fail))
    all_goals (conv => whnf)
    all_goals (refine Fin.pure (congrArg I ?_); split <;> omega)
  · have e : restR a b = -1 := by
      rw [restR, if_neg]
      simpa using hv
    refine fn_run (T := tab) Tryz.func124 rfl Tryz.ntmps124 rfl Tryz.results124 (fun _ => ?_)
    repeat' ((conv => whnf) <;> (first | refine Must.mk (fun h => h) ?_ | refine Must.mk (fun _ => rfl) ?_ | refine Must.mk Qw ?_ | refine MW.ok Qw ?_ | intro _ | exact Fin.pure rfl | refine Br.tt ?_ | refine Br.ff ?_ | (refine Br.mk (fun h => ?_) (fun h => ?_) <;> (try simp only [sh] at h) <;> (try first | (exfalso; omega) | exact absurd trivial h | (exfalso; simp at h; done))) | refine Ix.at ‹_› Qw ?_ | refine Ix.mapN Qw ?_ | refine Ix.mapN1 Qw ?_ | refine Ix.map Qw ?_ | refine Ix.at Qi Qw ?_ | refine Quo.nn Qw ?_ | refine Quo.t Qw ?_ | refine Rem.nn Qw ?_ | refine Rem.t Qw ?_ | refine LK.callA ent63 (c1) rfl rfl (SbL.refl _) ?_ | refine Ask.callA ent63 (fun h => c1) rfl rfl (SbL.refl _) ?_ | refine LK.callA ent63 (c1) rfl rfl Ql ?_ | refine Ask.callA ent63 (fun h => c1) rfl rfl Ql ?_ | refine LK.callA ent63 (c2) rfl rfl (SbL.refl _) ?_ | refine Ask.callA ent63 (fun h => c2) rfl rfl (SbL.refl _) ?_ | refine LK.callA ent63 (c2) rfl rfl Ql ?_ | refine Ask.callA ent63 (fun h => c2) rfl rfl Ql ?_ | refine lB (T := tab) ?_ | refine lBA (T := tab) ?_ | refine LK.askW rfl ?_ | refine s1 ?_ | refine sA ?_ | refine CK.any false Qk ?_ | fail))
    · conv => whnf
      exact Fin.pure (congrArg I e.symm)
    · rename_i h5
      exact absurd h5.1 hv
    · rename_i h5
      exact absurd h5.1 hv
set_option maxHeartbeats 4000000 in
theorem e7Minutes_ok (p : Pl) (d : Du) (hz : validZ p.zone = true) : FnA Tryz.prog 26 [.agg (zcs p.zone), duav d] (.tup [.sl 2 ((if dutyOk p d then minsD p d else []).map ptav), I (if dutyOk p d then 0 else if duB d then 21 else 171)]) := by
  have c1 := e7Valid_ok d
  by_cases hv : duB d = true
  · have hb := duB_bd hv
    have c2 := e3Split_ok p.zone d.frm d.to_ hz (by omega)
    have e : dutyOk p d = splitOk p.zone d.frm d.to_ := by rw [dutyOk, hv, Bool.true_and]
    rw [hv] at c1
    rw [e, hv]
    refine fn_run (T := tab) Tryz.func26 rfl Tryz.ntmps26 rfl Tryz.results26 (fun _ => ?_)
    repeat' ((conv => whnf) <;> (first | refine Must.mk (fun h => h) ?_ | refine Must.mk (fun _ => rfl) ?_ | refine Must.mk Qw ?_ | refine MW.ok Qw ?_ | intro _ | exact Fin.pure rfl | refine Br.tt ?_ | refine Br.ff ?_ | (refine Br.mk (fun h => ?_) (fun h => ?_) <;> (try simp only [sh] at h) <;> (try first | (exfalso; omega) | exact absurd trivial h | (exfalso; simp at h; done))) | refine Ix.at ‹_› Qw ?_ | refine Ix.mapN Qw ?_ | refine Ix.mapN1 Qw ?_ | refine Ix.map Qw ?_ | refine Ix.at Qi Qw ?_ | refine Quo.nn Qw ?_ | refine Quo.t Qw ?_ | refine Rem.nn Qw ?_ | refine Rem.t Qw ?_ | refine LK.callA ent63 (c1) rfl rfl (SbL.refl _) ?_ | refine Ask.callA ent63 (fun h => c1) rfl rfl (SbL.refl _) ?_ | refine LK.callA ent63 (c1) rfl rfl Ql ?_ | refine Ask.callA ent63 (fun h => c1) rfl rfl Ql ?_ | refine LK.callA ent64 (c2) rfl rfl (SbL.refl _) ?_ | refine Ask.callA ent64 (fun h => c2) rfl rfl (SbL.refl _) ?_ | refine LK.callA ent64 (c2) rfl rfl Ql ?_ | refine Ask.callA ent64 (fun h => c2) rfl rfl Ql ?_ | refine lB (T := tab) ?_ | refine lBA (T := tab) ?_ | refine LK.askW rfl ?_ | refine s1 ?_ | refine sA ?_ | refine CK.any false Qk ?_ | fail))
    all_goals skip
  · have hv2 := Bool.eq_false_iff.2 hv
    have e : dutyOk p d = false := by rw [dutyOk, hv2, Bool.false_and]
    rw [hv2] at c1
    rw [e, hv2]
    refine fn_run (T := tab) Tryz.func26 rfl Tryz.ntmps26 rfl Tryz.results26 (fun _ => ?_)
    repeat' ((conv => whnf) <;> (first | refine Must.mk (fun h => h) ?_ | refine Must.mk (fun _ => rfl) ?_ | refine Must.mk Qw ?_ | refine MW.ok Qw ?_ | intro _ | exact Fin.pure rfl | refine Br.tt ?_ | refine Br.ff ?_ | (refine Br.mk (fun h => ?_) (fun h => ?_) <;> (try simp only [sh] at h) <;> (try first | (exfalso; omega) | exact absurd trivial h | (exfalso; simp at h; done))) | refine Ix.at ‹_› Qw ?_ | refine Ix.mapN Qw ?_ | refine Ix.mapN1 Qw ?_ | refine Ix.map Qw ?_ | refine Ix.at Qi Qw ?_ | refine Quo.nn Qw ?_ | refine Quo.t Qw ?_ | refine Rem.nn Qw ?_ | refine Rem.t Qw ?_ | refine LK.callA ent63 (c1) rfl rfl (SbL.refl _) ?_ | refine Ask.callA ent63 (fun h => c1) rfl rfl (SbL.refl _) ?_ | refine LK.callA ent63 (c1) rfl rfl Ql ?_ | refine Ask.callA ent63 (fun h => c1) rfl rfl Ql ?_ | refine lB (T := tab) ?_ | refine lBA (T := tab) ?_ | refine LK.askW rfl ?_ | refine s1 ?_ | refine sA ?_ | refine CK.any false Qk ?_ | fail))
    conv => whnf
    exact Fin.seeP Qz
set_option maxHeartbeats 4000000 in
theorem e7Night_ok (p : Pl) (d : Du) (hz : validZ p.zone = true) (hv : duB d = true) (hw : 0 ≤ p.lim.night.1 ∧ p.lim.night.1 ≤ 1440 ∧ 0 ≤ p.lim.night.2 ∧ p.lim.night.2 ≤ 1440) : FnA Tryz.prog 140 [.agg (zcs p.zone), duav d, spav p.lim.night] (.tup [I (nightD p d), I 0]) := by
  have c1 := e7Valid_ok d
  have hb := duB_bd hv
  have c2 := e3Window_ok p.zone d.frm d.to_ p.lim.night hz (by omega) hw
  rw [hv] at c1
  refine fn_run (T := tab) Tryz.func140 rfl Tryz.ntmps140 rfl Tryz.results140 (fun _ => ?_)
  repeat' ((conv => whnf) <;> (first | refine Must.mk (fun h => h) ?_ | refine Must.mk (fun _ => rfl) ?_ | refine Must.mk Qw ?_ | refine MW.ok Qw ?_ | intro _ | exact Fin.pure rfl | refine Br.tt ?_ | refine Br.ff ?_ | (refine Br.mk (fun h => ?_) (fun h => ?_) <;> (try simp only [sh] at h) <;> (try first | (exfalso; omega) | exact absurd trivial h | (exfalso; simp at h; done))) | refine Ix.at ‹_› Qw ?_ | refine Ix.mapN Qw ?_ | refine Ix.mapN1 Qw ?_ | refine Ix.map Qw ?_ | refine Ix.at Qi Qw ?_ | refine Quo.nn Qw ?_ | refine Quo.t Qw ?_ | refine Rem.nn Qw ?_ | refine Rem.t Qw ?_ | refine LK.callA ent63 (c1) rfl rfl (SbL.refl _) ?_ | refine Ask.callA ent63 (fun h => c1) rfl rfl (SbL.refl _) ?_ | refine LK.callA ent63 (c1) rfl rfl Ql ?_ | refine Ask.callA ent63 (fun h => c1) rfl rfl Ql ?_ | refine LK.callA ent157 (c2) rfl rfl (SbL.refl _) ?_ | refine Ask.callA ent157 (fun h => c2) rfl rfl (SbL.refl _) ?_ | refine LK.callA ent157 (c2) rfl rfl Ql ?_ | refine Ask.callA ent157 (fun h => c2) rfl rfl Ql ?_ | refine lB (T := tab) ?_ | refine lBA (T := tab) ?_ | refine LK.askW rfl ?_ | refine s1 ?_ | refine sA ?_ | refine CK.any false Qk ?_ | fail))
end Go.Proofs.YthjllgabmgkocaaGreat
