/-
  Walks: the reference's First, Where.
  Conditions: those of each theorem.
-/
import Derived.Test.YtnekeokgognegaaU18
namespace Go.Proofs.Ytnekeokgognegaa
open Go.E2 Go.Wage
/-- what the bisection ends at -/
def bsN (p : Int → Bool) : Nat → Int → Int → Int
  | 0, a, _ => a
  | n + 1, a, b => if a < b then (if p (a + (b - a) / 2) = true then bsN p n a (a + (b - a) / 2) else bsN p n (a + (b - a) / 2 + 1) b) else a
theorem bsN_fuel {p : Int → Bool} : ∀ (n m : Nat) (a b : Int), (b - a).toNat ≤ n → (b - a).toNat ≤ m → bsN p n a b = bsN p m a b
  | 0, 0, _, _, _, _ => rfl
  | 0, m + 1, a, b, h, _ => by
    unfold bsN
    rw [if_neg (by omega)]
  | n + 1, 0, a, b, _, h => by
    unfold bsN
    rw [if_neg (by omega)]
  | n + 1, m + 1, a, b, h1, h2 => by
    unfold bsN
    split
    · rw [bsN_fuel n m a (a + (b - a) / 2) (by omega) (by omega), bsN_fuel n m (a + (b - a) / 2 + 1) b (by omega) (by omega)]
    · rfl
def bsR (p : Int → Bool) (a b : Int) : Int := bsN p (b - a).toNat a b
theorem bsR_end {p : Int → Bool} {a b : Int} (h : ¬ a < b) : bsR p a b = a := by
  unfold bsR
  rw [show (b - a).toNat = 0 by omega]
  rfl
theorem bsR_lt {p : Int → Bool} {a b : Int} (h : a < b) : bsR p a b = if p (a + (b - a) / 2) = true then bsR p a (a + (b - a) / 2) else bsR p (a + (b - a) / 2 + 1) b := by
  unfold bsR
  obtain ⟨n, hn⟩ : ∃ n, (b - a).toNat = n + 1 := ⟨(b - a).toNat - 1, by omega⟩
  rw [hn]
  conv => lhs; unfold bsN
  rw [if_pos h]
  rw [bsN_fuel n (a + (b - a) / 2 - a).toNat a (a + (b - a) / 2) (by omega) (by omega), bsN_fuel n (b - (a + (b - a) / 2 + 1)).toNat (a + (b - a) / 2 + 1) b (by omega) (by omega)]
theorem bsR_is {p : Int → Bool} : ∀ (n : Nat) (a b t : Int), (b - a).toNat ≤ n → a ≤ t → t ≤ b → (∀ x, a ≤ x → x < b → (p x = true ↔ t ≤ x)) → bsR p a b = t
  | 0, a, b, t, h, h1, h2, _ => by
    rw [bsR_end (by omega)]
    omega
  | n + 1, a, b, t, h, h1, h2, hp => by
    by_cases hab : a < b
    · rw [bsR_lt hab]
      have hm := hp (a + (b - a) / 2) (by omega) (by omega)
      by_cases hc : t ≤ a + (b - a) / 2
      · rw [if_pos (hm.2 hc)]
        exact bsR_is n a (a + (b - a) / 2) t (by omega) h1 hc fun x g1 g2 => hp x g1 (by omega)
      · rw [if_neg fun g => hc (hm.1 g)]
        exact bsR_is n (a + (b - a) / 2 + 1) b t (by omega) (by omega) h2 fun x g1 g2 => hp x (by omega) g2
    · rw [bsR_end hab]
      omega
def fstB (ps : List Pc) (n : Int) (up : Bool) (x : Int) : Bool := if up then decide (n ≤ numAt ps x) else decide (numAt ps x ≤ n)
set_option maxHeartbeats 4000000 in
theorem r5First_ok (d n : Int) (up : Bool) (from_ to : Int) (ps : List Pc) (hp : validB d ps = true) (h0 : 0 ≤ from_) (h1 : from_ ≤ to) (h2 : to ≤ 1000000000000) :
    FnA Try.prog 41 [fav d ps, I n, B up, I from_, I to] (I (bsR (fstB ps n up) from_ (to + 1))) := by
  cases up with
  | true =>
    refine fn_run (T := tab) Try.func41 rfl Try.ntmps41 rfl Try.results41 (fun _ => ?_)
    repeat' ((conv => whnf) <;> (first | refine zM ?_ | refine zW ?_ | intro _ | exact zF | refine Br.tt ?_ | refine Br.ff ?_ | (refine Br.mk (fun h => ?_) (fun h => ?_) <;> (try simp only [sh] at h) <;> try first | (exfalso; omega) | exact absurd trivial h | (simp at h; done)) | refine zA ?_ | refine zN ?_ | refine zO ?_ | refine zP ?_ | refine zB ?_ | refine zQ ?_ | refine Quo.t Qw ?_ | refine lB ?_ | refine lBA ?_ | refine zK ?_ | refine s1 ?_ | refine sA ?_ | refine zC ?_ | fail))
    (conv => whnf); refine CK.loopK [11, 12, 13, 17, 18, 19, 20, 21, 22, 23, 24, 25, 26, 27, 28, 29, 30, 31, 32, 33, 34, 35, 36, 37, 38, 39, 40, 41, 42, 43, 44, 45, 46, 47] (σ := Int × Int) (fun s => from_ ≤ s.1 ∧ s.1 ≤ s.2 ∧ s.2 ≤ to + 1 ∧ bsR (fstB ps n true) s.1 s.2 = bsR (fstB ps n true) from_ (to + 1)) (fun ⟨a, b⟩ => [(11, I a), (12, I b)]) (fun _ => []) _ (fun s => (s.2 - s.1).toNat) (from_, to + 1) ⟨Int.le_refl _, by simp only; omega, Int.le_refl _, rfl⟩ Qy Qs ?_
    conv => whnf
    rintro ⟨a, b⟩ ⟨i1, i2, i3, i4⟩
    simp only at i1 i2 i3 i4
    dsimp only
    by_cases hab : a < b
    · have hm : a ≤ a + (b - a) / 2 ∧ a + (b - a) / 2 < b := by omega
      have cm := r5At_ok d (a + (b - a) / 2) ps hp (by omega) (by omega)
      rw [bsR_lt hab, show fstB ps n true (a + (b - a) / 2) = decide (n ≤ numAt ps (a + (b - a) / 2)) from rfl] at i4
      repeat' ((conv => whnf) <;> (first | refine zM ?_ | refine zW ?_ | intro _ | exact zF | refine Br.tt ?_ | refine Br.ff ?_ | (refine Br.mk (fun h => ?_) (fun h => ?_) <;> (try simp only [sh] at h) <;> try first | (exfalso; omega) | exact absurd trivial h | (simp at h; done)) | refine zA ?_ | refine zN ?_ | refine zO ?_ | refine zP ?_ | refine zB ?_ | refine zQ ?_ | refine Quo.t Qw ?_ | refine zL ent34 cm ?_ | refine zG ent34 (fun h => cm) ?_ | refine lB ?_ | refine lBA ?_ | refine zK ?_ | refine s1 ?_ | refine sA ?_ | refine zC ?_ | exact True.intro | fail))
      · simp only [false_and, or_false] at h
        rw [if_pos (decide_eq_true h)] at i4
        (conv => whnf); (refine Nxt.of ((a, a + (b - a) / 2)) [11, 12, 13, 17, 18, 19, 20, 21, 22, 23, 24, 25, 26, 27, 28, 29, 30, 31, 32, 33, 34, 35, 36, 37, 38, 39, 40, 41, 42, 43, 44, 45, 46, 47] Qr Qr Qr ?_ ?_ Qy Qs <;> (try dsimp only) <;> (try omega))
      · simp only [true_or, and_true] at h
        rw [if_neg (by rw [decide_eq_true_iff]; omega)] at i4
        (conv => whnf); (refine Nxt.of ((a + (b - a) / 2 + 1, b)) [11, 12, 13, 17, 18, 19, 20, 21, 22, 23, 24, 25, 26, 27, 28, 29, 30, 31, 32, 33, 34, 35, 36, 37, 38, 39, 40, 41, 42, 43, 44, 45, 46, 47] Qr Qr Qr ?_ ?_ Qy Qs <;> (try dsimp only) <;> (try omega))
    · rw [bsR_end hab] at i4
      rw [← i4]
      repeat' ((conv => whnf) <;> (first | refine zM ?_ | refine zW ?_ | intro _ | exact zF | refine Fin.pure ?_ | refine Br.tt ?_ | refine Br.ff ?_ | (refine Br.mk (fun h => ?_) (fun h => ?_) <;> (try simp only [sh] at h) <;> try first | (exfalso; omega) | exact absurd trivial h | (simp at h; done)) | refine zA ?_ | refine zN ?_ | refine zO ?_ | refine zP ?_ | refine zB ?_ | refine zQ ?_ | refine Quo.t Qw ?_ | refine lB ?_ | refine lBA ?_ | refine zK ?_ | refine s1 ?_ | refine sA ?_ | refine zC ?_ | fail))
  | false =>
    refine fn_run (T := tab) Try.func41 rfl Try.ntmps41 rfl Try.results41 (fun _ => ?_)
    repeat' ((conv => whnf) <;> (first | refine zM ?_ | refine zW ?_ | intro _ | exact zF | refine Br.tt ?_ | refine Br.ff ?_ | (refine Br.mk (fun h => ?_) (fun h => ?_) <;> (try simp only [sh] at h) <;> try first | (exfalso; omega) | exact absurd trivial h | (simp at h; done)) | refine zA ?_ | refine zN ?_ | refine zO ?_ | refine zP ?_ | refine zB ?_ | refine zQ ?_ | refine Quo.t Qw ?_ | refine lB ?_ | refine lBA ?_ | refine zK ?_ | refine s1 ?_ | refine sA ?_ | refine zC ?_ | fail))
    (conv => whnf); refine CK.loopK [11, 12, 13, 17, 18, 19, 20, 21, 22, 23, 24, 25, 26, 27, 28, 29, 30, 31, 32, 33, 34, 35, 36, 37, 38, 39, 40, 41, 42, 43, 44, 45, 46, 47] (σ := Int × Int) (fun s => from_ ≤ s.1 ∧ s.1 ≤ s.2 ∧ s.2 ≤ to + 1 ∧ bsR (fstB ps n false) s.1 s.2 = bsR (fstB ps n false) from_ (to + 1)) (fun ⟨a, b⟩ => [(11, I a), (12, I b)]) (fun _ => []) _ (fun s => (s.2 - s.1).toNat) (from_, to + 1) ⟨Int.le_refl _, by simp only; omega, Int.le_refl _, rfl⟩ Qy Qs ?_
    conv => whnf
    rintro ⟨a, b⟩ ⟨i1, i2, i3, i4⟩
    simp only at i1 i2 i3 i4
    dsimp only
    by_cases hab : a < b
    · have hm : a ≤ a + (b - a) / 2 ∧ a + (b - a) / 2 < b := by omega
      have cm := r5At_ok d (a + (b - a) / 2) ps hp (by omega) (by omega)
      rw [bsR_lt hab, show fstB ps n false (a + (b - a) / 2) = decide (numAt ps (a + (b - a) / 2) ≤ n) from rfl] at i4
      repeat' ((conv => whnf) <;> (first | refine zM ?_ | refine zW ?_ | intro _ | exact zF | refine Br.tt ?_ | refine Br.ff ?_ | (refine Br.mk (fun h => ?_) (fun h => ?_) <;> (try simp only [sh] at h) <;> try first | (exfalso; omega) | exact absurd trivial h | (simp at h; done)) | refine zA ?_ | refine zN ?_ | refine zO ?_ | refine zP ?_ | refine zB ?_ | refine zQ ?_ | refine Quo.t Qw ?_ | refine zL ent34 cm ?_ | refine zG ent34 (fun h => cm) ?_ | refine lB ?_ | refine lBA ?_ | refine zK ?_ | refine s1 ?_ | refine sA ?_ | refine zC ?_ | exact True.intro | fail))
      · simp only [false_and, false_or] at h
        rw [if_pos (decide_eq_true h)] at i4
        (conv => whnf); (refine Nxt.of ((a, a + (b - a) / 2)) [11, 12, 13, 17, 18, 19, 20, 21, 22, 23, 24, 25, 26, 27, 28, 29, 30, 31, 32, 33, 34, 35, 36, 37, 38, 39, 40, 41, 42, 43, 44, 45, 46, 47] Qr Qr Qr ?_ ?_ Qy Qs <;> (try dsimp only) <;> (try omega))
      · simp only [true_or, true_and] at h
        rw [if_neg (by rw [decide_eq_true_iff]; omega)] at i4
        (conv => whnf); (refine Nxt.of ((a + (b - a) / 2 + 1, b)) [11, 12, 13, 17, 18, 19, 20, 21, 22, 23, 24, 25, 26, 27, 28, 29, 30, 31, 32, 33, 34, 35, 36, 37, 38, 39, 40, 41, 42, 43, 44, 45, 46, 47] Qr Qr Qr ?_ ?_ Qy Qs <;> (try dsimp only) <;> (try omega))
    · rw [bsR_end hab] at i4
      rw [← i4]
      repeat' ((conv => whnf) <;> (first | refine zM ?_ | refine zW ?_ | intro _ | exact zF | refine Fin.pure ?_ | refine Br.tt ?_ | refine Br.ff ?_ | (refine Br.mk (fun h => ?_) (fun h => ?_) <;> (try simp only [sh] at h) <;> try first | (exfalso; omega) | exact absurd trivial h | (simp at h; done)) | refine zA ?_ | refine zN ?_ | refine zO ?_ | refine zP ?_ | refine zB ?_ | refine zQ ?_ | refine Quo.t Qw ?_ | refine lB ?_ | refine lBA ?_ | refine zK ?_ | refine s1 ?_ | refine sA ?_ | refine zC ?_ | fail))
theorem bs_up {d start slope low high : Int} {ps : List Pc} {s : Sp} (hlt : s.1 < s.2) (h0 : 0 ≤ slope) (hl : ∀ x, s.1 ≤ x → x < s.2 → numAt ps x = start + slope * (x - s.1)) :
    bsR (fstB ps low true) s.1 (s.2 - 1 + 1) = (bdsR start slope low high s).1 ∧ bsR (fstB ps (high + 1) true) s.1 (s.2 - 1 + 1) = (bdsR start slope low high s).2 := by
  have hb := bds_bd (start := start) (slope := slope) (low := low) (high := high) hlt
  have _ := d
  rw [Int.sub_add_cancel]
  refine ⟨bsR_is _ _ _ _ (Nat.le_refl _) (by omega) (by omega) fun x g1 g2 => ?_, bsR_is _ _ _ _ (Nat.le_refl _) (by omega) (by omega) fun x g1 g2 => ?_⟩
  · rw [← (bds_up h0 g1 g2).1, ← hl x g1 g2]
    simp [fstB]
  · rw [← (bds_up h0 g1 g2).2, ← hl x g1 g2]
    simp [fstB]
theorem bs_dn {start slope low high : Int} {ps : List Pc} {s : Sp} (hlt : s.1 < s.2) (h0 : slope < 0) (hl : ∀ x, s.1 ≤ x → x < s.2 → numAt ps x = start + slope * (x - s.1)) :
    bsR (fstB ps high false) s.1 (s.2 - 1 + 1) = (bdsR start slope low high s).1 ∧ bsR (fstB ps (low - 1) false) s.1 (s.2 - 1 + 1) = (bdsR start slope low high s).2 := by
  have hb := bds_bd (start := start) (slope := slope) (low := low) (high := high) hlt
  rw [Int.sub_add_cancel]
  refine ⟨bsR_is _ _ _ _ (Nat.le_refl _) (by omega) (by omega) fun x g1 g2 => ?_, bsR_is _ _ _ _ (Nat.le_refl _) (by omega) (by omega) fun x g1 g2 => ?_⟩
  · rw [← (bds_dn h0 g1 g2).1, ← hl x g1 g2]
    simp [fstB]
  · rw [← (bds_dn h0 g1 g2).2, ← hl x g1 g2]
    simp [fstB]
set_option maxRecDepth 4000 in
set_option maxHeartbeats 16000000 in
theorem r5Where_ok (d low high : Int) (ps : List Pc) (hp : ps.length ≤ 9223372036854775807) : FnA Try.prog 16 [fav d ps, I low, I high] (wav (whG d ps low high)) := by
  have c1 := r5Valid_ok d ps hp
  have w1 := r5within_ok low 1000000000000 (by omega) (by omega)
  have w2 := r5within_ok high 1000000000000 (by omega) (by omega)
  unfold whG
  by_cases hv : validB d ps = true
  · rw [if_pos hv]
    rw [hv] at c1
    by_cases hl : limB low ∧ limB high
    · rw [if_pos hl]
      unfold limB at hl
      have hpl : (ps.map pav).length = ps.length := by simp
      by_cases hlh : high < low
      · rw [fnd_nil hv hlh]
        unfold wav
        refine fn_run (T := tab) Try.func16 rfl Try.ntmps16 rfl Try.results16 (fun _ => ?_)
        repeat' ((conv => whnf) <;> (first | refine zM ?_ | refine zW ?_ | intro _ | exact zF | refine Br.tt ?_ | refine Br.ff ?_ | (refine Br.mk (fun h => ?_) (fun h => ?_) <;> (try simp only [sh] at h) <;> try first | (exfalso; omega) | exact absurd trivial h | (simp at h; done)) | refine zA ?_ | refine zN ?_ | refine zO ?_ | refine zP ?_ | refine zB ?_ | refine zQ ?_ | refine Quo.t Qw ?_ | refine zL ent21 c1 ?_ | refine zG ent21 (fun h => c1) ?_ | refine zL ent40 w1 ?_ | refine zG ent40 (fun h => w1) ?_ | refine zL ent40 w2 ?_ | refine zG ent40 (fun h => w2) ?_ | refine lB ?_ | refine lBA ?_ | refine zK ?_ | refine s1 ?_ | refine sA ?_ | refine zC ?_ | exact True.intro | fail))
        all_goals (conv => whnf)
        all_goals exact Fin.seeP (Sb.tup (.cons (Sb.nil (k := 2)) (.cons (Sb.refl _) .nil)))
      · have v1 := valid_parts hv
        have hSl := starts_len (ps := ps) (qs := [])
        simp only [List.length_nil, Nat.add_zero] at hSl
        have hspl := sps_len ps []
        rw [starts_one hv, List.length_map] at hspl
        have hfl := fnd_len (den := d) (low := low) (high := high) (ps := ps) (spsR ps []).length
        have cn := r4Normal_ok (fndR d low high ps (spsR ps []).length) (by omega)
        have ml : -1000000000000000000 ≤ low * d ∧ low * d ≤ 1000000000000000000 := by
          have a1 : low * d ≤ 1000000000000 * d := Int.mul_le_mul_of_nonneg_right hl.1.2 (by omega)
          have a2 : -1000000000000 * d ≤ low * d := Int.mul_le_mul_of_nonneg_right hl.1.1 (by omega)
          omega
        have mh : -1000000000000000000 ≤ high * d ∧ high * d ≤ 1000000000000000000 := by
          have a1 : high * d ≤ 1000000000000 * d := Int.mul_le_mul_of_nonneg_right hl.2.2 (by omega)
          have a2 : -1000000000000 * d ≤ high * d := Int.mul_le_mul_of_nonneg_right hl.2.1 (by omega)
          omega
        have mlh : low * d ≤ high * d := Int.mul_le_mul_of_nonneg_right (by omega) (by omega)
        unfold wav
        refine fn_run (T := tab) Try.func16 rfl Try.ntmps16 rfl Try.results16 (fun _ => ?_)
        repeat' ((conv => whnf) <;> (first | refine zM ?_ | refine zW ?_ | intro _ | exact zF | refine Br.tt ?_ | refine Br.ff ?_ | (refine Br.mk (fun h => ?_) (fun h => ?_) <;> (try simp only [sh] at h) <;> try first | (exfalso; omega) | exact absurd trivial h | (simp at h; done)) | refine zA ?_ | refine zN ?_ | refine zO ?_ | refine zP ?_ | refine zB ?_ | refine zQ ?_ | refine Quo.t Qw ?_ | refine zL ent21 c1 ?_ | refine zG ent21 (fun h => c1) ?_ | refine zL ent40 w1 ?_ | refine zG ent40 (fun h => w1) ?_ | refine zL ent40 w2 ?_ | refine zG ent40 (fun h => w2) ?_ | refine lB ?_ | refine lBA ?_ | refine zK ?_ | refine s1 ?_ | refine sA ?_ | refine zC ?_ | exact True.intro | fail))
        conv => whnf
        refine CK.nilrow 50 2 ?_
        (conv => whnf); refine CK.loopK [11, 12, 13, 14, 15, 33, 34, 35, 36, 37, 38, 39, 40, 41, 42, 43, 44, 45, 46, 47, 48, 49, 50, 51, 52, 53, 54, 55, 56, 57, 58, 59, 60, 61, 62, 63, 64, 65, 66, 67, 68, 69, 70, 71, 72, 73, 74, 75, 76, 77, 78, 79, 80, 81, 82, 83, 84, 85, 86, 87, 88, 89, 90, 91, 92, 93, 94, 95, 96, 97, 98, 99, 100, 101, 102, 103, 104, 105, 106, 107, 108, 109, 110, 111] (σ := Nat × Value) (fun s => s.1 ≤ ps.length) (fun ⟨k, v⟩ => [(12, I k), (11, .v v)]) (fun ⟨k, v⟩ => [.row v 50 2 0 false ((fndR d low high ps k).map spav)]) _ (fun s => ps.length - s.1) (0, .slice none 0 0) (Nat.zero_le _) Qy (by exact List.Sublist.refl _) ?_
        conv => whnf
        rintro ⟨k, v⟩ i1
        simp only at i1
        dsimp only
        have hfk := fnd_len (den := d) (low := low) (high := high) (ps := ps) k
        have hb1 : ((fndR d low high ps k).map spav).length ≤ 100 := by
          rw [List.length_map]; omega
        by_cases hk : k < ps.length
        · have hs := sps_one hv hk
          have hpc := pcAt_one hv hk
          have hb := sps_bd (den' := d) hv (.inl rfl) hs
          have hsc := fnd_succ (den := d) (low := low) (high := high) hs
          obtain ⟨_, _, _, _, _, hin, _⟩ : 0 ≤ (ps.getD k default).frm ∧ True ∧ True ∧ True ∧ True ∧ (∀ p ∈ ps, p.frm ≤ (ps.getD k default).frm ∨ (if k + 1 < ps.length then (ps.getD (k + 1) default).frm else 1000000000001) ≤ p.frm) ∧ True := by
            refine ⟨hb.1, trivial, trivial, trivial, trivial, fun p hpm => ?_, trivial⟩
            obtain ⟨j, hj⟩ := List.getElem?_of_mem hpm
            have hjl := (List.getElem?_eq_some_iff.1 hj).1
            rcases Nat.lt_trichotomy j k with h | h | h
            · have := valid_incr hv h hj (gAtD hk); omega
            · subst h; rw [gAtD hk] at hj; cases hj; exact .inl (Int.le_refl _)
            · right
              rw [if_pos (by omega)]
              by_cases e : j = k + 1
              · subst e; rw [gAtD hjl] at hj; cases hj; exact Int.le_refl _
              · have := valid_incr hv (show k + 1 < j by omega) (gAtD (by omega)) hj; omega
          have hlin := fun x g1 g2 => (trn_lin (s := ((ps.getD k default).frm, if k + 1 < ps.length then (ps.getD (k + 1) default).frm else 1000000000001)) (x := x) hv hb.1 hin g1 g2).2
          rw [wsp_bds hb.2.2.2.2 (by omega) mlh] at hsc
          dsimp only at hb hlin hsc
          rw [hpc] at hlin hsc
          have e1 := fun h0 => bs_up (d := d) (low := low * d) (high := high * d) (s := ((ps.getD k default).frm, if k + 1 < ps.length then (ps.getD (k + 1) default).frm else 1000000000001)) hb.2.2.2.2 h0 hlin
          have e2 := fun h0 => bs_dn (low := low * d) (high := high * d) (s := ((ps.getD k default).frm, if k + 1 < ps.length then (ps.getD (k + 1) default).frm else 1000000000001)) hb.2.2.2.2 h0 hlin
          have f1 := r5First_ok d (low * d) true (ps.getD k default).frm ((if k + 1 < ps.length then (ps.getD (k + 1) default).frm else 1000000000001) - 1) ps hv hb.1 (by omega) (by omega)
          have f2 := r5First_ok d (high * d + 1) true (ps.getD k default).frm ((if k + 1 < ps.length then (ps.getD (k + 1) default).frm else 1000000000001) - 1) ps hv hb.1 (by omega) (by omega)
          have f3 := r5First_ok d (high * d) false (ps.getD k default).frm ((if k + 1 < ps.length then (ps.getD (k + 1) default).frm else 1000000000001) - 1) ps hv hb.1 (by omega) (by omega)
          have f4 := r5First_ok d (low * d - 1) false (ps.getD k default).frm ((if k + 1 < ps.length then (ps.getD (k + 1) default).frm else 1000000000001) - 1) ps hv hb.1 (by omega) (by omega)
          dsimp only at e1 e2
          generalize bdsR (numAt ps (ps.getD k default).frm) (ps.getD k default).slope (low * d) (high * d) _ = r at *
          generalize bsR (fstB ps (low * d) true) _ _ = u1 at *
          generalize bsR (fstB ps (high * d + 1) true) _ _ = u2 at *
          generalize bsR (fstB ps (high * d) false) _ _ = u3 at *
          generalize bsR (fstB ps (low * d - 1) false) _ _ = u4 at *
          clear hlin hin hs
          by_cases hkl : k + 1 < ps.length
          · rw [if_pos hkl] at *
            have hel : (ps.map pav)[((k : Int) + 1).toNat]? = some (pav (ps.getD (k + 1) default)) := by
              rw [show ((k : Int) + 1).toNat = k + 1 by omega, List.getElem?_map, gAtD hkl]
              rfl
            generalize ps.getD (k + 1) default = nx at *
            repeat' ((conv => whnf) <;> (first | refine CK.anyK (id := 20) [0, 1, 2, 3, 4, 5, 6, 7, 8, 9, 10, 11, 12, 13, 14, 15, 16, 17] [18] _ (List.Sublist.cons _ (List.Sublist.refl _)) Qk ?_ | refine CK.anyK (id := 18) [0, 1, 2, 3, 4, 5, 6, 7, 8, 9, 10, 11, 12, 13, 14, 15, 16, 17] [18, 19] _ (List.Sublist.refl _) Qk ?_ | refine zA ?_ (h := hel) | refine zM ?_ | refine zW ?_ | intro _ | exact zF | refine Br.tt ?_ | refine Br.ff ?_ | (refine Br.mk (fun h => ?_) (fun h => ?_) <;> (try simp only [sh] at h) <;> try first | (exfalso; omega) | exact absurd trivial h | (simp at h; done)) | refine zA ?_ | refine zN ?_ | refine zO ?_ | refine zP ?_ | refine zB ?_ | refine zQ ?_ | refine Quo.t Qw ?_ | refine zL ent41 f1 ?_ | refine zG ent41 (fun h => f1) ?_ | refine zL ent41 f2 ?_ | refine zG ent41 (fun h => f2) ?_ | refine zL ent41 f3 ?_ | refine zG ent41 (fun h => f3) ?_ | refine zL ent41 f4 ?_ | refine zG ent41 (fun h => f4) ?_ | refine lB ?_ | refine lBA ?_ | refine zK ?_ | refine s1 ?_ | refine sA ?_ | refine pS ?_ | refine LK.gr (Gr.bslV rfl rfl rfl rfl) ?_ | refine Ask.of (Gr.bslV rfl rfl rfl rfl) ?_ | refine Kx.nil ?_ | refine Kx.stp rfl rfl Qs ?_ | refine kA ?_ | refine kS ?_ | (refine Kx.frzR 0 rfl ?_ <;> refine kF ?_) | refine kP ?_ | refine k1 ?_ | refine kB ?_ | refine kL ?_ | refine zC ?_ | refine zD ?_ | fail))
            · rename_i A q cp
              obtain ⟨rfl, rfl⟩ := e2 (by omega)
              rw [if_pos (by omega)] at hsc
              (conv => whnf); (refine Nxt.of ((k + 1, Value.slice A q cp)) [11, 12, 13, 14, 15, 33, 34, 35, 36, 37, 38, 39, 40, 41, 42, 43, 44, 45, 46, 47, 48, 49, 50, 51, 52, 53, 54, 55, 56, 57, 58, 59, 60, 61, 62, 63, 64, 65, 66, 67, 68, 69, 70, 71, 72, 73, 74, 75, 76, 77, 78, 79, 80, 81, 82, 83, 84, 85, 86, 87, 88, 89, 90, 91, 92, 93, 94, 95, 96, 97, 98, 99, 100, 101, 102, 103, 104, 105, 106, 107, 108, 109, 110, 111] Qr Qr Qr ?_ ?_ Qy ?_ <;> (try dsimp only) <;> (try omega))
              rw [hsc, List.map_append]
              exact Qs
            · obtain ⟨rfl, rfl⟩ := e2 (by omega)
              rw [if_neg (by omega), List.append_nil] at hsc
              (conv => whnf); (refine Nxt.of ((k + 1, v)) [11, 12, 13, 14, 15, 33, 34, 35, 36, 37, 38, 39, 40, 41, 42, 43, 44, 45, 46, 47, 48, 49, 50, 51, 52, 53, 54, 55, 56, 57, 58, 59, 60, 61, 62, 63, 64, 65, 66, 67, 68, 69, 70, 71, 72, 73, 74, 75, 76, 77, 78, 79, 80, 81, 82, 83, 84, 85, 86, 87, 88, 89, 90, 91, 92, 93, 94, 95, 96, 97, 98, 99, 100, 101, 102, 103, 104, 105, 106, 107, 108, 109, 110, 111] Qr Qr Qr ?_ ?_ Qy ?_ <;> (try dsimp only) <;> (try omega))
              rw [hsc]
              exact Qs
            · rename_i A q cp
              obtain ⟨rfl, rfl⟩ := e1 (by omega)
              rw [if_pos (by omega)] at hsc
              (conv => whnf); (refine Nxt.of ((k + 1, Value.slice A q cp)) [11, 12, 13, 14, 15, 33, 34, 35, 36, 37, 38, 39, 40, 41, 42, 43, 44, 45, 46, 47, 48, 49, 50, 51, 52, 53, 54, 55, 56, 57, 58, 59, 60, 61, 62, 63, 64, 65, 66, 67, 68, 69, 70, 71, 72, 73, 74, 75, 76, 77, 78, 79, 80, 81, 82, 83, 84, 85, 86, 87, 88, 89, 90, 91, 92, 93, 94, 95, 96, 97, 98, 99, 100, 101, 102, 103, 104, 105, 106, 107, 108, 109, 110, 111] Qr Qr Qr ?_ ?_ Qy ?_ <;> (try dsimp only) <;> (try omega))
              rw [hsc, List.map_append]
              exact Qs
            · obtain ⟨rfl, rfl⟩ := e1 (by omega)
              rw [if_neg (by omega), List.append_nil] at hsc
              (conv => whnf); (refine Nxt.of ((k + 1, v)) [11, 12, 13, 14, 15, 33, 34, 35, 36, 37, 38, 39, 40, 41, 42, 43, 44, 45, 46, 47, 48, 49, 50, 51, 52, 53, 54, 55, 56, 57, 58, 59, 60, 61, 62, 63, 64, 65, 66, 67, 68, 69, 70, 71, 72, 73, 74, 75, 76, 77, 78, 79, 80, 81, 82, 83, 84, 85, 86, 87, 88, 89, 90, 91, 92, 93, 94, 95, 96, 97, 98, 99, 100, 101, 102, 103, 104, 105, 106, 107, 108, 109, 110, 111] Qr Qr Qr ?_ ?_ Qy ?_ <;> (try dsimp only) <;> (try omega))
              rw [hsc]
              exact Qs
          · rw [if_neg hkl] at *
            repeat' ((conv => whnf) <;> (first | refine CK.anyK (id := 20) [0, 1, 2, 3, 4, 5, 6, 7, 8, 9, 10, 11, 12, 13, 14, 15, 16, 17] [18] _ (List.Sublist.cons _ (List.Sublist.refl _)) Qk ?_ | refine CK.anyK (id := 18) [0, 1, 2, 3, 4, 5, 6, 7, 8, 9, 10, 11, 12, 13, 14, 15, 16, 17] [18, 19] _ (List.Sublist.refl _) Qk ?_ | refine zM ?_ | refine zW ?_ | intro _ | exact zF | refine Br.tt ?_ | refine Br.ff ?_ | (refine Br.mk (fun h => ?_) (fun h => ?_) <;> (try simp only [sh] at h) <;> try first | (exfalso; omega) | exact absurd trivial h | (simp at h; done)) | refine zA ?_ | refine zN ?_ | refine zO ?_ | refine zP ?_ | refine zB ?_ | refine zQ ?_ | refine Quo.t Qw ?_ | refine zL ent41 f1 ?_ | refine zG ent41 (fun h => f1) ?_ | refine zL ent41 f2 ?_ | refine zG ent41 (fun h => f2) ?_ | refine zL ent41 f3 ?_ | refine zG ent41 (fun h => f3) ?_ | refine zL ent41 f4 ?_ | refine zG ent41 (fun h => f4) ?_ | refine lB ?_ | refine lBA ?_ | refine zK ?_ | refine s1 ?_ | refine sA ?_ | refine pS ?_ | refine LK.gr (Gr.bslV rfl rfl rfl rfl) ?_ | refine Ask.of (Gr.bslV rfl rfl rfl rfl) ?_ | refine Kx.nil ?_ | refine Kx.stp rfl rfl Qs ?_ | refine kA ?_ | refine kS ?_ | (refine Kx.frzR 0 rfl ?_ <;> refine kF ?_) | refine kP ?_ | refine k1 ?_ | refine kB ?_ | refine kL ?_ | refine zC ?_ | refine zD ?_ | fail))
            · rename_i A q cp
              obtain ⟨rfl, rfl⟩ := e2 (by omega)
              rw [if_pos (by omega)] at hsc
              (conv => whnf); (refine Nxt.of ((k + 1, Value.slice A q cp)) [11, 12, 13, 14, 15, 33, 34, 35, 36, 37, 38, 39, 40, 41, 42, 43, 44, 45, 46, 47, 48, 49, 50, 51, 52, 53, 54, 55, 56, 57, 58, 59, 60, 61, 62, 63, 64, 65, 66, 67, 68, 69, 70, 71, 72, 73, 74, 75, 76, 77, 78, 79, 80, 81, 82, 83, 84, 85, 86, 87, 88, 89, 90, 91, 92, 93, 94, 95, 96, 97, 98, 99, 100, 101, 102, 103, 104, 105, 106, 107, 108, 109, 110, 111] Qr Qr Qr ?_ ?_ Qy ?_ <;> (try dsimp only) <;> (try omega))
              rw [hsc, List.map_append]
              exact Qs
            · obtain ⟨rfl, rfl⟩ := e2 (by omega)
              rw [if_neg (by omega), List.append_nil] at hsc
              (conv => whnf); (refine Nxt.of ((k + 1, v)) [11, 12, 13, 14, 15, 33, 34, 35, 36, 37, 38, 39, 40, 41, 42, 43, 44, 45, 46, 47, 48, 49, 50, 51, 52, 53, 54, 55, 56, 57, 58, 59, 60, 61, 62, 63, 64, 65, 66, 67, 68, 69, 70, 71, 72, 73, 74, 75, 76, 77, 78, 79, 80, 81, 82, 83, 84, 85, 86, 87, 88, 89, 90, 91, 92, 93, 94, 95, 96, 97, 98, 99, 100, 101, 102, 103, 104, 105, 106, 107, 108, 109, 110, 111] Qr Qr Qr ?_ ?_ Qy ?_ <;> (try dsimp only) <;> (try omega))
              rw [hsc]
              exact Qs
            · rename_i A q cp
              obtain ⟨rfl, rfl⟩ := e1 (by omega)
              rw [if_pos (by omega)] at hsc
              (conv => whnf); (refine Nxt.of ((k + 1, Value.slice A q cp)) [11, 12, 13, 14, 15, 33, 34, 35, 36, 37, 38, 39, 40, 41, 42, 43, 44, 45, 46, 47, 48, 49, 50, 51, 52, 53, 54, 55, 56, 57, 58, 59, 60, 61, 62, 63, 64, 65, 66, 67, 68, 69, 70, 71, 72, 73, 74, 75, 76, 77, 78, 79, 80, 81, 82, 83, 84, 85, 86, 87, 88, 89, 90, 91, 92, 93, 94, 95, 96, 97, 98, 99, 100, 101, 102, 103, 104, 105, 106, 107, 108, 109, 110, 111] Qr Qr Qr ?_ ?_ Qy ?_ <;> (try dsimp only) <;> (try omega))
              rw [hsc, List.map_append]
              exact Qs
            · obtain ⟨rfl, rfl⟩ := e1 (by omega)
              rw [if_neg (by omega), List.append_nil] at hsc
              (conv => whnf); (refine Nxt.of ((k + 1, v)) [11, 12, 13, 14, 15, 33, 34, 35, 36, 37, 38, 39, 40, 41, 42, 43, 44, 45, 46, 47, 48, 49, 50, 51, 52, 53, 54, 55, 56, 57, 58, 59, 60, 61, 62, 63, 64, 65, 66, 67, 68, 69, 70, 71, 72, 73, 74, 75, 76, 77, 78, 79, 80, 81, 82, 83, 84, 85, 86, 87, 88, 89, 90, 91, 92, 93, 94, 95, 96, 97, 98, 99, 100, 101, 102, 103, 104, 105, 106, 107, 108, 109, 110, 111] Qr Qr Qr ?_ ?_ Qy ?_ <;> (try dsimp only) <;> (try omega))
              rw [hsc]
              exact Qs
        · obtain rfl : k = ps.length := by omega
          rw [hspl] at cn
          have hfm : ((fndR d low high ps ps.length).map spav).length = (fndR d low high ps ps.length).length := by simp
          rw [hspl]
          repeat' ((conv => whnf) <;> (first | (refine LK.frzR 0 rfl ?_ <;> refine LK.see 112 rfl (Sb.row 0 rfl) ?_ <;> refine LK.callA ent42 cn rfl rfl Ql ?_) | refine zM ?_ | refine zW ?_ | intro _ | exact zF | refine Br.tt ?_ | refine Br.ff ?_ | (refine Br.mk (fun h => ?_) (fun h => ?_) <;> (try simp only [sh] at h) <;> try first | (exfalso; omega) | exact absurd trivial h | (simp at h; done)) | refine zA ?_ | refine zN ?_ | refine zO ?_ | refine zP ?_ | refine zB ?_ | refine zQ ?_ | refine Quo.t Qw ?_ | refine lB ?_ | refine lBA ?_ | refine zK ?_ | refine s1 ?_ | refine sA ?_ | refine zC ?_ | fail))
          repeat' ((conv => whnf) <;> (first | refine zM ?_ | refine zW ?_ | intro _ | exact zF | refine Fin.pure ?_ | refine Br.tt ?_ | refine Br.ff ?_ | (refine Br.mk (fun h => ?_) (fun h => ?_) <;> (try simp only [sh] at h) <;> try first | (exfalso; omega) | exact absurd trivial h | (simp at h; done)) | refine zA ?_ | refine zN ?_ | refine zO ?_ | refine zP ?_ | refine zB ?_ | refine zQ ?_ | refine Quo.t Qw ?_ | refine lB ?_ | refine lBA ?_ | refine zK ?_ | refine s1 ?_ | refine sA ?_ | refine zC ?_ | fail))
    · rw [if_neg hl]
      unfold limB at hl
      unfold wav
      refine fn_run (T := tab) Try.func16 rfl Try.ntmps16 rfl Try.results16 (fun _ => ?_)
      repeat' ((conv => whnf) <;> (first | refine zM ?_ | refine zW ?_ | intro _ | exact zF | refine Br.tt ?_ | refine Br.ff ?_ | (refine Br.mk (fun h => ?_) (fun h => ?_) <;> (try simp only [sh] at h) <;> try first | (exfalso; omega) | exact absurd trivial h | (simp at h; done)) | refine zA ?_ | refine zN ?_ | refine zO ?_ | refine zP ?_ | refine zB ?_ | refine zQ ?_ | refine Quo.t Qw ?_ | refine zL ent21 c1 ?_ | refine zG ent21 (fun h => c1) ?_ | refine zL ent40 w1 ?_ | refine zG ent40 (fun h => w1) ?_ | refine zL ent40 w2 ?_ | refine zG ent40 (fun h => w2) ?_ | refine lB ?_ | refine lBA ?_ | refine zK ?_ | refine s1 ?_ | refine sA ?_ | refine zC ?_ | exact True.intro | fail))
      all_goals (conv => whnf)
      all_goals exact Fin.seeP (Sb.tup (.cons (Sb.nil (k := 2)) (.cons (Sb.refl _) .nil)))
  · rw [if_neg hv]
    rw [Bool.not_eq_true] at hv
    rw [hv] at c1
    unfold wav
    refine fn_run (T := tab) Try.func16 rfl Try.ntmps16 rfl Try.results16 (fun _ => ?_)
    repeat' ((conv => whnf) <;> (first | refine zM ?_ | refine zW ?_ | intro _ | exact zF | refine Br.tt ?_ | refine Br.ff ?_ | (refine Br.mk (fun h => ?_) (fun h => ?_) <;> (try simp only [sh] at h) <;> try first | (exfalso; omega) | exact absurd trivial h | (simp at h; done)) | refine zA ?_ | refine zN ?_ | refine zO ?_ | refine zP ?_ | refine zB ?_ | refine zQ ?_ | refine Quo.t Qw ?_ | refine zL ent21 c1 ?_ | refine zG ent21 (fun h => c1) ?_ | refine zL ent40 w1 ?_ | refine zG ent40 (fun h => w1) ?_ | refine zL ent40 w2 ?_ | refine zG ent40 (fun h => w2) ?_ | refine lB ?_ | refine lBA ?_ | refine zK ?_ | refine s1 ?_ | refine sA ?_ | refine zC ?_ | exact True.intro | fail))
    all_goals (conv => whnf)
    all_goals exact Fin.seeP (Sb.tup (.cons (Sb.nil (k := 2)) (.cons (Sb.refl _) .nil)))
end Go.Proofs.Ytnekeokgognegaa
