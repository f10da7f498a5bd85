/-
  Walks: the reference's Valid, Piece, At, Slope, Eval, Round.
  Conditions: those of each theorem.
-/
import Derived.Test.YtnekeokgognegaaU14
namespace Go.Proofs.Ytnekeokgognegaa
open Go.E2 Go.Wage
theorem r5within_ok (a b : Int) (hb : 0 ≤ b) (hb' : b ≤ 4000000000000000000) : FnA Try.prog 40 [I a, I b] (B (decide (-b ≤ a ∧ a ≤ b))) := by
  rw [Bool.decide_and]
  refine fn_run (T := tab) Try.func40 rfl Try.ntmps40 rfl Try.results40 (fun _ => ?_)
  repeat' ((conv => whnf) <;> (first | refine zM ?_ | refine zW ?_ | intro _ | exact zF | refine Fin.pure ?_ | refine Br.tt ?_ | refine Br.ff ?_ | (refine Br.mk (fun h => ?_) (fun h => ?_) <;> (try simp only [sh] at h) <;> try first | (exfalso; omega) | exact absurd trivial h | (simp at h; done)) | refine zA ?_ | refine zN ?_ | refine zO ?_ | refine zP ?_ | refine zB ?_ | refine zQ ?_ | refine Quo.t Qw ?_ | refine zR ?_ | refine Rem.t Qw ?_ | refine lB ?_ | refine lBA ?_ | refine zK ?_ | refine s1 ?_ | refine sA ?_ | refine zC ?_ | fail))
set_option maxHeartbeats 4000000 in
theorem r5Valid_ok (den : Int) (ps : List Pc) (hlen : ps.length ≤ 9223372036854775807) : FnA Try.prog 21 [fav den ps] (B (validB den ps)) := by
  have hl : (ps.map pav).length = ps.length := by simp
  by_cases hh : den < 1 ∨ 1000000 < den ∨ (ps.length : Int) < 1 ∨ 64 < (ps.length : Int)
  · have hv := validB_head (ps := ps) (den := den) hh
    refine fn_run (T := tab) Try.func21 rfl Try.ntmps21 rfl Try.results21 (fun _ => ?_)
    repeat' ((conv => whnf) <;> (first | refine zM ?_ | refine zW ?_ | intro _ | exact zF | refine Br.tt ?_ | refine Br.ff ?_ | (refine Br.mk (fun h => ?_) (fun h => ?_) <;> (try simp only [sh] at h) <;> try first | (exfalso; omega) | exact absurd trivial h | (simp at h; done)) | refine zA ?_ | refine zN ?_ | refine zO ?_ | refine zP ?_ | refine zB ?_ | refine zQ ?_ | refine Quo.t Qw ?_ | refine zR ?_ | refine Rem.t Qw ?_ | refine lB ?_ | refine lBA ?_ | refine zK ?_ | refine s1 ?_ | refine sA ?_ | refine zC ?_ | fail))
    all_goals (conv => whnf)
    all_goals exact .out _ (by exact List.nil_sublist _) ⟨congrArg B hv.symm, rfl⟩
  · refine fn_run (T := tab) Try.func21 rfl Try.ntmps21 rfl Try.results21 (fun _ => ?_)
    repeat' ((conv => whnf) <;> (first | refine zM ?_ | refine zW ?_ | intro _ | exact zF | refine Br.tt ?_ | refine Br.ff ?_ | (refine Br.mk (fun h => ?_) (fun h => ?_) <;> (try simp only [sh] at h) <;> try first | (exfalso; omega) | exact absurd trivial h | (simp at h; done)) | refine zA ?_ | refine zN ?_ | refine zO ?_ | refine zP ?_ | refine zB ?_ | refine zQ ?_ | refine Quo.t Qw ?_ | refine zR ?_ | refine Rem.t Qw ?_ | refine lB ?_ | refine lBA ?_ | refine zK ?_ | refine s1 ?_ | refine sA ?_ | refine zC ?_ | fail))
    (conv => whnf); refine CK.loopK [2, 3, 4, 5, 6, 27, 28, 29, 30, 31, 32, 33, 34, 35, 36, 37, 38, 39, 40, 41, 42, 43, 44, 45, 46, 47, 48, 49, 50, 51, 52, 53, 54, 55, 56, 57, 58, 59, 60, 61, 62, 63, 64, 65, 66, 67, 68, 69, 70, 71, 72, 73, 74, 75, 76, 77, 78, 79, 80] (σ := Nat) (fun k => k ≤ ps.length ∧ (List.range k).all (okI ps) = true) (fun k => [(3, I k)]) (fun _ => []) _ (fun k => ps.length - k) 0 ⟨Nat.zero_le _, rfl⟩ Qy Qs ?_
    conv => whnf
    rintro k ⟨i1, i2⟩
    by_cases hk : k < ps.length
    · have hok := okI_iff (gAtD hk) (gAtD (show ((k : Int) - 1).toNat < ps.length by omega))
      have hno := validB_false (den := den) hk
      rw [show ((k : Int) - 1).toNat = k - 1 by omega] at hok
      have w1 := r5within_ok (ps.getD k default).slope 1000000 (by omega) (by omega)
      have w2 := r5within_ok (ps.getD k default).at_ 1000000000000000000 (by omega) (by omega)
      repeat' ((conv => whnf) <;> (first | refine zM ?_ | refine zW ?_ | intro _ | exact zF | refine Br.tt ?_ | refine Br.ff ?_ | (refine Br.mk (fun h => ?_) (fun h => ?_) <;> (try simp only [sh] at h) <;> try first | (exfalso; omega) | exact absurd trivial h | (simp at h; done)) | refine zA ?_ | refine zN ?_ | refine zO ?_ | refine zP ?_ | refine zB ?_ | refine zQ ?_ | refine Quo.t Qw ?_ | refine zR ?_ | refine Rem.t Qw ?_ | refine zL ent40 w1 ?_ | refine zG ent40 (fun h => w1) ?_ | refine zL ent40 w2 ?_ | refine zG ent40 (fun h => w2) ?_ | refine lB ?_ | refine lBA ?_ | refine zK ?_ | refine s1 ?_ | refine sA ?_ | refine Kx.nil ?_ | refine Kx.stp rfl rfl Qs ?_ | refine kA ?_ | (refine Kx.frzR 0 rfl ?_ <;> refine kF ?_) | refine kP ?_ | refine k1 ?_ | refine kB ?_ | refine kL ?_ | refine zC ?_ | exact True.intro | fail))
      · conv => whnf
        exact .out _ (by exact List.nil_sublist _) ⟨congrArg B (hno (by rw [← Bool.not_eq_true, hok]; omega)).symm, rfl⟩
      · (conv => whnf); (refine Nxt.of (k + 1) [2, 3, 4, 5, 6, 27, 28, 29, 30, 31, 32, 33, 34, 35, 36, 37, 38, 39, 40, 41, 42, 43, 44, 45, 46, 47, 48, 49, 50, 51, 52, 53, 54, 55, 56, 57, 58, 59, 60, 61, 62, 63, 64, 65, 66, 67, 68, 69, 70, 71, 72, 73, 74, 75, 76, 77, 78, 79, 80] Qr Qr Qr ?_ ?_ Qy Qs <;> (try dsimp only) <;> (try omega))
        exact ⟨hk, all_snoc i2 (hok.2 (by omega))⟩
    · obtain rfl : k = ps.length := by omega
      repeat' ((conv => whnf) <;> (first | refine zM ?_ | refine zW ?_ | intro _ | exact zF | refine Br.tt ?_ | refine Br.ff ?_ | (refine Br.mk (fun h => ?_) (fun h => ?_) <;> (try simp only [sh] at h) <;> try first | (exfalso; omega) | exact absurd trivial h | (simp at h; done)) | refine zA ?_ | refine zN ?_ | refine zO ?_ | refine zP ?_ | refine zB ?_ | refine zQ ?_ | refine Quo.t Qw ?_ | refine zR ?_ | refine Rem.t Qw ?_ | refine lB ?_ | refine lBA ?_ | refine zK ?_ | refine s1 ?_ | refine sA ?_ | refine zC ?_ | fail))
      conv => whnf
      refine .out _ (by exact List.nil_sublist _) ⟨congrArg B ?_, rfl⟩
      simp [validB, i2]
      omega
theorem r5Piece_ok (den x : Int) (ps : List Pc) (hok : validB den ps = true) (hx : 0 ≤ x) : FnA Try.prog 50 [fav den ps, I x] (I (pix ps x)) := by
  have hl : (ps.map pav).length = ps.length := by simp
  have hvp := valid_parts hok
  obtain ⟨s1, s2, s3⟩ := pcAt_spec hok hx
  have hsl : pix ps x < ps.length := (List.getElem?_eq_some_iff.1 s1).1
  refine fn_run (T := tab) Try.func50 rfl Try.ntmps50 rfl Try.results50 (fun _ => ?_)
  repeat' ((conv => whnf) <;> (first | refine zM ?_ | refine zW ?_ | intro _ | exact zF | refine Br.tt ?_ | refine Br.ff ?_ | (refine Br.mk (fun h => ?_) (fun h => ?_) <;> (try simp only [sh] at h) <;> try first | (exfalso; omega) | exact absurd trivial h | (simp at h; done)) | refine zA ?_ | refine zN ?_ | refine zO ?_ | refine zP ?_ | refine zB ?_ | refine zQ ?_ | refine Quo.t Qw ?_ | refine zR ?_ | refine Rem.t Qw ?_ | refine lB ?_ | refine lBA ?_ | refine zK ?_ | refine s1 ?_ | refine sA ?_ | refine zC ?_ | fail))
  (conv => whnf); refine CK.loopK [5, 6, 7, 8, 9, 10, 11, 12, 13, 14, 15, 16, 17, 18, 19, 20, 21, 22] (σ := Nat × Int) (fun s => s.1 ≤ ps.length ∧ s.2 = ((if s.1 ≤ pix ps x then s.1 - 1 else pix ps x : Nat) : Int)) (fun ⟨k, v⟩ => [(6, I k), (5, I v)]) (fun _ => []) _ (fun s => ps.length - s.1) (0, 0) ⟨Nat.zero_le _, by simp⟩ Qy Qs ?_
  conv => whnf
  rintro ⟨k, v⟩ ⟨i1, i2⟩
  simp only at i1 i2
  dsimp only
  by_cases hk : k < ps.length
  · have hp := gAtD hk
    have hpx : (ps.getD k default).frm ≤ x ↔ k ≤ pix ps x := by
      constructor
      · intro h
        rcases Nat.lt_or_ge (pix ps x) k with hlt | hge
        · exfalso
          rcases Nat.lt_or_ge (pix ps x + 1) k with h2 | h2
          · have hq : ps[pix ps x + 1]? = some ps[pix ps x + 1] := List.getElem?_eq_getElem (by omega)
            have := s3 _ hq
            have := valid_incr hok h2 hq hp
            omega
          · have e : k = pix ps x + 1 := by omega
            rw [e] at hp h
            have := s3 _ hp
            omega
        · exact hge
      · intro h
        rcases Nat.lt_or_ge k (pix ps x) with hlt | hge
        · have := valid_incr hok hlt hp s1
          omega
        · have e : k = pix ps x := by omega
          rw [e]
          exact s2
    generalize pix ps x = K at *
    repeat' ((conv => whnf) <;> (first | refine zM ?_ | refine zW ?_ | intro _ | exact zF | refine Br.tt ?_ | refine Br.ff ?_ | (refine Br.mk (fun h => ?_) (fun h => ?_) <;> (try simp only [sh] at h) <;> try first | (exfalso; omega) | exact absurd trivial h | (simp at h; done)) | refine zA ?_ | refine zN ?_ | refine zO ?_ | refine zP ?_ | refine zB ?_ | refine zQ ?_ | refine Quo.t Qw ?_ | refine zR ?_ | refine Rem.t Qw ?_ | refine lB ?_ | refine lBA ?_ | refine zK ?_ | refine s1 ?_ | refine sA ?_ | refine zC ?_ | fail))
    · have hkK := hpx.1 h
      (conv => whnf); (refine Nxt.of ((k + 1, (k : Int))) [5, 6, 7, 8, 9, 10, 11, 12, 13, 14, 15, 16, 17, 18, 19, 20, 21, 22] Qr Qr Qr ?_ ?_ Qy Qs <;> (try dsimp only) <;> (try omega))
      refine ⟨by omega, ?_⟩
      split <;> omega
    · have hkK : ¬ k ≤ K := fun h' => by have := hpx.2 h'; omega
      rw [if_neg hkK] at i2
      (conv => whnf); (refine Nxt.of ((k + 1, v)) [5, 6, 7, 8, 9, 10, 11, 12, 13, 14, 15, 16, 17, 18, 19, 20, 21, 22] Qr Qr Qr ?_ ?_ Qy Qs <;> (try dsimp only) <;> (try omega))
      refine ⟨by omega, ?_⟩
      rw [if_neg (by omega)]
      exact i2
  · have e : v = (pix ps x : Nat) := by rw [i2, if_neg (by omega)]
    rw [← e]
    repeat' ((conv => whnf) <;> (first | refine zM ?_ | refine zW ?_ | intro _ | exact zF | refine Fin.pure ?_ | refine Br.tt ?_ | refine Br.ff ?_ | (refine Br.mk (fun h => ?_) (fun h => ?_) <;> (try simp only [sh] at h) <;> try first | (exfalso; omega) | exact absurd trivial h | (simp at h; done)) | refine zA ?_ | refine zN ?_ | refine zO ?_ | refine zP ?_ | refine zB ?_ | refine zQ ?_ | refine Quo.t Qw ?_ | refine zR ?_ | refine Rem.t Qw ?_ | refine lB ?_ | refine lBA ?_ | refine zK ?_ | refine s1 ?_ | refine sA ?_ | refine zC ?_ | fail))
theorem hel_at {den x : Int} {ps : List Pc} (hok : validB den ps = true) (hx : 0 ≤ x) : (ps.map pav)[((pix ps x : Nat) : Int).toNat]? = some (pav (pcAt ps x)) := by
  obtain ⟨s1, s2, s3⟩ := pcAt_spec hok hx
  rw [Int.toNat_natCast, List.getElem?_map, s1]
  rfl
theorem r5At_ok (den x : Int) (ps : List Pc) (hok : validB den ps = true) (hx : 0 ≤ x) (hx' : x ≤ 1000000000000) : FnA Try.prog 34 [fav den ps, I x] (I (numAt ps x)) := by
  have hl : (ps.map pav).length = ps.length := by simp
  have hvp := valid_parts hok
  obtain ⟨s1, s2, s3⟩ := pcAt_spec hok hx
  have hsl : pix ps x < ps.length := (List.getElem?_eq_some_iff.1 s1).1
  have hb := valid_piece hok s1
  have hm := mul_bd (pcAt ps x).slope (x - (pcAt ps x).frm) 1000000 1000000000000 (by omega) (by omega) (by omega) (by omega) (by omega)
  have c := r5Piece_ok den x ps hok hx
  have hel := hel_at hok hx
  unfold numAt
  generalize pcAt ps x = p at *
  generalize pix ps x = i at *
  refine fn_run (T := tab) Try.func34 rfl Try.ntmps34 rfl Try.results34 (fun _ => ?_)
  repeat' ((conv => whnf) <;> (first | refine CK.anyK (id := 1) [0, 1, 2, 3, 4, 5, 6] [7, 8] _ (List.Sublist.refl _) Qk ?_ | refine zA ?_ (h := hel) | refine zM ?_ | refine zW ?_ | intro _ | exact zF | refine Fin.pure ?_ | refine Br.tt ?_ | refine Br.ff ?_ | (refine Br.mk (fun h => ?_) (fun h => ?_) <;> (try simp only [sh] at h) <;> try first | (exfalso; omega) | exact absurd trivial h | (simp at h; done)) | refine zA ?_ | refine zN ?_ | refine zO ?_ | refine zP ?_ | refine zB ?_ | refine zQ ?_ | refine Quo.t Qw ?_ | refine zR ?_ | refine Rem.t Qw ?_ | refine zL ent50 c ?_ | refine zG ent50 (fun h => c) ?_ | refine lB ?_ | refine lBA ?_ | refine zK ?_ | refine s1 ?_ | refine sA ?_ | refine Kx.nil ?_ | refine Kx.stp rfl rfl Qs ?_ | refine kA ?_ | (refine Kx.frzR 0 rfl ?_ <;> refine kF ?_) | refine kP ?_ | refine k1 ?_ | refine kB ?_ | refine kL ?_ | refine zC ?_ | fail))
theorem r5Slope_ok (den x : Int) (ps : List Pc) (hok : validB den ps = true) (hx : 0 ≤ x) : FnA Try.prog 35 [fav den ps, I x] (I (pcAt ps x).slope) := by
  have hl : (ps.map pav).length = ps.length := by simp
  obtain ⟨s1, s2, s3⟩ := pcAt_spec hok hx
  have hsl : pix ps x < ps.length := (List.getElem?_eq_some_iff.1 s1).1
  have c := r5Piece_ok den x ps hok hx
  have hel := hel_at hok hx
  generalize pcAt ps x = p at *
  generalize pix ps x = i at *
  refine fn_run (T := tab) Try.func35 rfl Try.ntmps35 rfl Try.results35 (fun _ => ?_)
  repeat' ((conv => whnf) <;> (first | refine zA ?_ (h := hel) | refine zM ?_ | refine zW ?_ | intro _ | exact zF | refine Fin.pure ?_ | refine Br.tt ?_ | refine Br.ff ?_ | (refine Br.mk (fun h => ?_) (fun h => ?_) <;> (try simp only [sh] at h) <;> try first | (exfalso; omega) | exact absurd trivial h | (simp at h; done)) | refine zA ?_ | refine zN ?_ | refine zO ?_ | refine zP ?_ | refine zB ?_ | refine zQ ?_ | refine Quo.t Qw ?_ | refine zR ?_ | refine Rem.t Qw ?_ | refine zL ent50 c ?_ | refine zG ent50 (fun h => c) ?_ | refine lB ?_ | refine lBA ?_ | refine zK ?_ | refine s1 ?_ | refine sA ?_ | refine zC ?_ | fail))
theorem r5Eval_ok (den x : Int) (ps : List Pc) (hlen : ps.length ≤ 9223372036854775807) : FnA Try.prog 23 [fav den ps, I x] (tr3 (evalR den ps x)) := by
  have cv := r5Valid_ok den ps hlen
  by_cases hok : validB den ps = true ∧ argB x = true
  · have hx : 0 ≤ x ∧ x ≤ 1000000000000 := by simpa [argB] using hok.2
    have e : evalR den ps x = (numAt ps x, den, 0) := if_pos hok
    rw [e]
    rw [hok.1] at cv
    have cn := r5At_ok den x ps hok.1 hx.1 hx.2
    unfold tr3
    refine fn_run (T := tab) Try.func23 rfl Try.ntmps23 rfl Try.results23 (fun _ => ?_)
    repeat' ((conv => whnf) <;> (first | refine zM ?_ | refine zW ?_ | intro _ | exact zF | refine Fin.pure ?_ | refine Br.tt ?_ | refine Br.ff ?_ | (refine Br.mk (fun h => ?_) (fun h => ?_) <;> (try simp only [sh] at h) <;> try first | (exfalso; omega) | exact absurd trivial h | (simp at h; done)) | refine zA ?_ | refine zN ?_ | refine zO ?_ | refine zP ?_ | refine zB ?_ | refine zQ ?_ | refine Quo.t Qw ?_ | refine zR ?_ | refine Rem.t Qw ?_ | refine zL ent21 cv ?_ | refine zG ent21 (fun h => cv) ?_ | refine zL ent34 cn ?_ | refine zG ent34 (fun h => cn) ?_ | refine lB ?_ | refine lBA ?_ | refine zK ?_ | refine s1 ?_ | refine sA ?_ | refine zC ?_ | exact True.intro | fail))
  · have e : evalR den ps x = (0, 0, 1) := if_neg hok
    rw [e]
    unfold tr3
    cases hv : validB den ps with
    | true =>
      rw [hv] at cv
      have ha : ¬ (0 ≤ x ∧ x ≤ 1000000000000) := fun h => hok ⟨hv, by simpa [argB] using h⟩
      refine fn_run (T := tab) Try.func23 rfl Try.ntmps23 rfl Try.results23 (fun _ => ?_)
      repeat' ((conv => whnf) <;> (first | refine zM ?_ | refine zW ?_ | intro _ | exact zF | refine Fin.pure ?_ | refine Br.tt ?_ | refine Br.ff ?_ | (refine Br.mk (fun h => ?_) (fun h => ?_) <;> (try simp only [sh] at h) <;> try first | (exfalso; omega) | exact absurd trivial h | (simp at h; done)) | refine zA ?_ | refine zN ?_ | refine zO ?_ | refine zP ?_ | refine zB ?_ | refine zQ ?_ | refine Quo.t Qw ?_ | refine zR ?_ | refine Rem.t Qw ?_ | refine zL ent21 cv ?_ | refine zG ent21 (fun h => cv) ?_ | refine lB ?_ | refine lBA ?_ | refine zK ?_ | refine s1 ?_ | refine sA ?_ | refine zC ?_ | exact True.intro | fail))
    | false =>
      rw [hv] at cv
      refine fn_run (T := tab) Try.func23 rfl Try.ntmps23 rfl Try.results23 (fun _ => ?_)
      repeat' ((conv => whnf) <;> (first | refine zM ?_ | refine zW ?_ | intro _ | exact zF | refine Fin.pure ?_ | refine Br.tt ?_ | refine Br.ff ?_ | (refine Br.mk (fun h => ?_) (fun h => ?_) <;> (try simp only [sh] at h) <;> try first | (exfalso; omega) | exact absurd trivial h | (simp at h; done)) | refine zA ?_ | refine zN ?_ | refine zO ?_ | refine zP ?_ | refine zB ?_ | refine zQ ?_ | refine Quo.t Qw ?_ | refine zR ?_ | refine Rem.t Qw ?_ | refine zL ent21 cv ?_ | refine zG ent21 (fun h => cv) ?_ | refine lB ?_ | refine lBA ?_ | refine zK ?_ | refine s1 ?_ | refine sA ?_ | refine zC ?_ | exact True.intro | fail))
set_option maxHeartbeats 8000000 in
theorem r5Round_ok (den x mode : Int) (ps : List Pc) (hlen : ps.length ≤ 9223372036854775807) : FnA Try.prog 25 [fav den ps, I x, I mode] (pr2 (roundR den ps x mode)) := by
  have ce := r5Eval_ok den x ps hlen
  by_cases hok : validB den ps = true ∧ argB x = true ∧ modeB mode = true
  · obtain ⟨h1, h2, h3⟩ := hok
    have hx : 0 ≤ x ∧ x ≤ 1000000000000 := by simpa [argB] using h2
    have hm : mode = 0 ∨ mode = 1 ∨ mode = 2 := by simpa [modeB, or_assoc] using h3
    have hvp := valid_parts h1
    have hn := numAt_bd h1 hx.1 hx.2
    have he : roundR den ps x mode = if inMax (roundQ (numAt ps x) den mode) = true then (roundQ (numAt ps x) den mode, 0) else (0, 3) := if_pos ⟨h1, h2, h3⟩
    rw [he]
    rw [show evalR den ps x = (numAt ps x, den, 0) from if_pos ⟨h1, h2⟩] at ce
    unfold tr3 at ce
    dsimp only at ce
    generalize numAt ps x = N at *
    have hd := div_bd N den (by omega)
    have hq := div_abs N den 2000000000000000000 (by omega) (by omega) (by omega) (by omega)
    have hfl := tdiv_fl N den (by omega)
    have htb := tdiv_bd N den (by omega) (by omega)
    have hsg : (0 ≤ N / den → 0 ≤ N / den * den) ∧ (N / den < 0 → N / den * den ≤ -den) := by
      refine ⟨fun h => Int.mul_nonneg h (by omega), fun h => ?_⟩
      have : N / den * den ≤ -1 * den := Int.mul_le_mul_of_nonneg_right (by omega) (by omega)
      omega
    have hQ : N / den = N / den := rfl
    clear hlen
    by_cases hc : N.tdiv den * den > N
    · rw [if_pos hc] at hfl
      have hmm := Int.sub_mul (N.tdiv den) 1 den
      rw [Int.one_mul] at hmm
      have t2 := tmod_two (N.tdiv den - 1)
      have w1 := r5within_ok (N.tdiv den - 1) 1000000000000 (by omega) (by omega)
      have w2 := r5within_ok (N.tdiv den - 1 + 1) 1000000000000 (by omega) (by omega)
      rw [hfl] at hd hq hsg
      refine fn_run (T := tab) Try.func25 rfl Try.ntmps25 rfl Try.results25 (fun _ => ?_)
      repeat' ((conv => whnf) <;> (first | refine zM ?_ | refine zW ?_ | intro _ | exact zF | refine Br.tt ?_ | refine Br.ff ?_ | (refine Br.mk (fun h => ?_) (fun h => ?_) <;> (try simp only [sh] at h) <;> try first | (exfalso; omega) | exact absurd trivial h | (simp at h; done)) | refine zA ?_ | refine zN ?_ | refine zO ?_ | refine zP ?_ | refine zB ?_ | refine zQ ?_ | refine Quo.t Qw ?_ | refine zR ?_ | refine Rem.t Qw ?_ | refine zL ent23 ce ?_ | refine zG ent23 (fun h => ce) ?_ | refine zL ent40 w1 ?_ | refine zG ent40 (fun h => w1) ?_ | refine zL ent40 w2 ?_ | refine zG ent40 (fun h => w2) ?_ | refine lB ?_ | refine lBA ?_ | refine zK ?_ | refine s1 ?_ | refine sA ?_ | refine zC ?_ | exact True.intro | fail))
      all_goals (conv => whnf)
      all_goals refine .out _ (by exact List.nil_sublist _) ⟨?_, rfl⟩
      all_goals first | rw [roundQ_pos hfl (by omega)] | rw [roundQ_neg hfl (by omega)]
      all_goals first | rw [if_pos (inMax_t (by omega))] | rw [if_neg (inMax_f (by omega))]
      all_goals rfl
    · rw [if_neg hc] at hfl
      have t2 := tmod_two (N.tdiv den)
      have w1 := r5within_ok (N.tdiv den) 1000000000000 (by omega) (by omega)
      have w2 := r5within_ok (N.tdiv den + 1) 1000000000000 (by omega) (by omega)
      rw [hfl] at hd hq hsg
      refine fn_run (T := tab) Try.func25 rfl Try.ntmps25 rfl Try.results25 (fun _ => ?_)
      repeat' ((conv => whnf) <;> (first | refine zM ?_ | refine zW ?_ | intro _ | exact zF | refine Br.tt ?_ | refine Br.ff ?_ | (refine Br.mk (fun h => ?_) (fun h => ?_) <;> (try simp only [sh] at h) <;> try first | (exfalso; omega) | exact absurd trivial h | (simp at h; done)) | refine zA ?_ | refine zN ?_ | refine zO ?_ | refine zP ?_ | refine zB ?_ | refine zQ ?_ | refine Quo.t Qw ?_ | refine zR ?_ | refine Rem.t Qw ?_ | refine zL ent23 ce ?_ | refine zG ent23 (fun h => ce) ?_ | refine zL ent40 w1 ?_ | refine zG ent40 (fun h => w1) ?_ | refine zL ent40 w2 ?_ | refine zG ent40 (fun h => w2) ?_ | refine lB ?_ | refine lBA ?_ | refine zK ?_ | refine s1 ?_ | refine sA ?_ | refine zC ?_ | exact True.intro | fail))
      all_goals (conv => whnf)
      all_goals refine .out _ (by exact List.nil_sublist _) ⟨?_, rfl⟩
      all_goals first | rw [roundQ_pos hfl (by omega)] | rw [roundQ_neg hfl (by omega)]
      all_goals first | rw [if_pos (inMax_t (by omega))] | rw [if_neg (inMax_f (by omega))]
      all_goals rfl
  · have he : roundR den ps x mode = (0, 1) := if_neg hok
    rw [he]
    unfold pr2
    by_cases h2 : validB den ps = true ∧ argB x = true
    · have hm : ¬ (mode = 0 ∨ mode = 1 ∨ mode = 2) := fun h => hok ⟨h2.1, h2.2, by simpa [modeB, or_assoc] using h⟩
      rw [show evalR den ps x = (numAt ps x, den, 0) from if_pos h2] at ce
      unfold tr3 at ce
      dsimp only at ce
      refine fn_run (T := tab) Try.func25 rfl Try.ntmps25 rfl Try.results25 (fun _ => ?_)
      repeat' ((conv => whnf) <;> (first | refine zM ?_ | refine zW ?_ | intro _ | exact zF | refine Fin.pure ?_ | refine Br.tt ?_ | refine Br.ff ?_ | (refine Br.mk (fun h => ?_) (fun h => ?_) <;> (try simp only [sh] at h) <;> try first | (exfalso; omega) | exact absurd trivial h | (simp at h; done)) | refine zA ?_ | refine zN ?_ | refine zO ?_ | refine zP ?_ | refine zB ?_ | refine zQ ?_ | refine Quo.t Qw ?_ | refine zR ?_ | refine Rem.t Qw ?_ | refine zL ent23 ce ?_ | refine zG ent23 (fun h => ce) ?_ | refine lB ?_ | refine lBA ?_ | refine zK ?_ | refine s1 ?_ | refine sA ?_ | refine zC ?_ | exact True.intro | fail))
    · rw [show evalR den ps x = (0, 0, 1) from if_neg h2] at ce
      unfold tr3 at ce
      dsimp only at ce
      refine fn_run (T := tab) Try.func25 rfl Try.ntmps25 rfl Try.results25 (fun _ => ?_)
      repeat' ((conv => whnf) <;> (first | refine zM ?_ | refine zW ?_ | intro _ | exact zF | refine Fin.pure ?_ | refine Br.tt ?_ | refine Br.ff ?_ | (refine Br.mk (fun h => ?_) (fun h => ?_) <;> (try simp only [sh] at h) <;> try first | (exfalso; omega) | exact absurd trivial h | (simp at h; done)) | refine zA ?_ | refine zN ?_ | refine zO ?_ | refine zP ?_ | refine zB ?_ | refine zQ ?_ | refine Quo.t Qw ?_ | refine zR ?_ | refine Rem.t Qw ?_ | refine zL ent23 ce ?_ | refine zG ent23 (fun h => ce) ?_ | refine lB ?_ | refine lBA ?_ | refine zK ?_ | refine s1 ?_ | refine sA ?_ | refine zC ?_ | exact True.intro | fail))
end Go.Proofs.Ytnekeokgognegaa
