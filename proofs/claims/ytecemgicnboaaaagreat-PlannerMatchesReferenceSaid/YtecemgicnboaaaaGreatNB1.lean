/-
  Walks: reference 20: Count, Numbered.
  Conditions: those of each theorem.
-/
import Derived.Test.YtecemgicnboaaaaGreatRO7
import Derived.Test.YtecemgicnboaaaaGreatGQ
namespace Go.Proofs.YtecemgicnboaaaaGreat
open Go.E2 Go.Wage
def cntP (p : Pl) (lim : Int) : Int := min ((p.workers.length ^ p.duties.length : Nat) : Int) (lim + 1)
theorem cnt_le {p : Pl} {lim : Int} {i : Nat} (hi : i ≤ p.duties.length) (hl : 1 ≤ lim) (h : p.duties.length ≤ i ∨ lim < ((p.workers.length ^ i : Nat) : Int)) : min ((p.workers.length ^ i : Nat) : Int) (lim + 1) = cntP p lim := by
  unfold cntP
  by_cases e : i = p.duties.length
  · rw [e]
  · have h1 : lim < ((p.workers.length ^ i : Nat) : Int) := h.resolve_left (by omega)
    have hW : 0 < p.workers.length := by
      rcases Nat.eq_zero_or_pos p.workers.length with h0 | h0
      · rw [h0] at h1
        rcases Nat.eq_zero_or_pos i with hi0 | hi0
        · rw [hi0] at h1; simp at h1; omega
        · rw [Nat.zero_pow hi0] at h1; simp at h1; omega
      · exact h0
    have h2 : p.workers.length ^ i ≤ p.workers.length ^ p.duties.length := Nat.pow_le_pow_right hW hi
    omega
set_option maxHeartbeats 4000000 in
theorem c0Count_ok (p : Pl) (lim : Int) (hs : Small p) (hl : 1 ≤ lim ∧ lim ≤ 1000000) : FnA Tryz.prog 23 [.agg (pcs p), I lim] (I (cntP p lim)) := by
  have hsd := hs.du
  have hsw := hs.wk
  have hld : (p.duties.map duav).length = p.duties.length := by simp
  have hlw : (p.workers.map wkav).length = p.workers.length := by simp
  refine fn_run (T := tab) Tryz.func23 rfl Tryz.ntmps23 rfl Tryz.results23 (fun _ => ?_)
  repeat' ((conv => whnf) <;> (first | refine zM ?_ | refine zW ?_ | intro _ | exact zF | refine Br.tt ?_ | refine Br.ff ?_ | (refine Br.mk (fun h => ?_) (fun h => ?_) <;> (try simp only [sh] at h) <;> try first | (exfalso; omega) | exact absurd trivial h | (simp at h; done)) | refine zA ?_ | refine zN ?_ | refine zO ?_ | refine zP ?_ | refine zB ?_ | refine zQ ?_ | refine Quo.t Qw ?_ | refine zR ?_ | refine Rem.t Qw ?_ | refine lB ?_ | refine lBA ?_ | refine zK ?_ | refine s1 ?_ | refine sA ?_ | refine zC ?_ | fail))
  (conv => whnf); refine CK.loopK [5, 6, 7, 8, 9, 10, 11, 12, 13, 14, 15, 16, 17, 18, 19, 20, 21, 22, 23] (σ := Nat) (fun i => i ≤ p.duties.length ∧ ∀ j, j < i → ((p.workers.length ^ j : Nat) : Int) ≤ lim) (fun i => [(5, I ((p.workers.length ^ i : Nat) : Int)), (6, I i)]) (fun _ => []) _ (fun i => p.duties.length - i) 0 ⟨Nat.zero_le _, by omega⟩ Qy (List.Sublist.refl _) ?_
  conv => whnf
  rintro i ⟨i1, i2⟩
  have hpow : ((p.workers.length ^ (i + 1) : Nat) : Int) = ((p.workers.length ^ i : Nat) : Int) * (p.workers.length : Int) := by rw [Nat.pow_succ, Int.natCast_mul]
  have hmul : ((p.workers.length ^ i : Nat) : Int) ≤ lim → 0 ≤ ((p.workers.length ^ i : Nat) : Int) * (p.workers.length : Int) ∧ ((p.workers.length ^ i : Nat) : Int) * (p.workers.length : Int) ≤ 1000000000 := fun h => by
    have h0 : (0 : Int) ≤ ((p.workers.length ^ i : Nat) : Int) := Int.natCast_nonneg _
    refine ⟨Int.mul_nonneg h0 (Int.natCast_nonneg _), ?_⟩
    have := Int.mul_le_mul (show ((p.workers.length ^ i : Nat) : Int) ≤ 1000000 by omega) (show (p.workers.length : Int) ≤ 1000 by omega) (Int.natCast_nonneg _) (by omega)
    omega
  have hmul2 : ((p.workers.length ^ i : Nat) : Int) ≤ lim → 0 ≤ ((p.workers.length ^ i : Nat) : Int) * ((p.workers.map wkav).length : Int) ∧ ((p.workers.length ^ i : Nat) : Int) * ((p.workers.map wkav).length : Int) ≤ 1000000000 := by rw [hlw]; exact hmul
  have i3 := cnt_le (p := p) (lim := lim) i1 hl.1
  generalize hP : ((p.workers.length ^ i : Nat) : Int) = P at *
  repeat' ((conv => whnf) <;> (first | refine zM ?_ | refine zW ?_ | intro _ | exact zF | refine Br.tt ?_ | refine Br.ff ?_ | (refine Br.mk (fun h => ?_) (fun h => ?_) <;> (try simp only [sh] at h) <;> try first | (exfalso; omega) | exact absurd trivial h | (simp at h; done)) | refine zA ?_ | refine zN ?_ | refine zO ?_ | refine zP ?_ | refine zB ?_ | refine zQ ?_ | refine Quo.t Qw ?_ | refine zR ?_ | refine Rem.t Qw ?_ | refine lB ?_ | refine lBA ?_ | refine zK ?_ | refine s1 ?_ | refine sA ?_ | refine zC ?_ | fail))
  · rw [hlw, ← hpow]
    (conv => whnf); (refine Nxt.of (i + 1) [5, 6, 7, 8, 9, 10, 11, 12, 13, 14, 15, 16, 17, 18, 19, 20, 21, 22, 23] Qr Qr Qr ?_ ?_ Qy Qs <;> (try dsimp only) <;> (try omega))
    · refine ⟨by omega, fun j hj => ?_⟩
      rcases Nat.lt_or_eq_of_le (Nat.le_of_lt_succ hj) with h1 | rfl
      · exact i2 j h1
      · rw [hP]; omega
  · conv => whnf
    exact Fin.pure (congrArg I (i3 (by omega)))
/-- the roster with the number n: the first duty's worker is the first digit -/
def numD (W : Nat) : Nat → Nat → List Int
  | 0, _ => []
  | k + 1, n => numD W k (n / W) ++ [((n % W : Nat) : Int)]
def numP (p : Pl) (n : Nat) : List Int := numD p.workers.length p.duties.length n
set_option maxRecDepth 4000 in
set_option maxHeartbeats 8000000 in
theorem c0Num_ok (p : Pl) (n : Nat) (hs : Small p) (hn : n ≤ 1000000) (hW : 0 < p.duties.length → 0 < p.workers.length) : FnA Tryz.prog 22 [.agg (pcs p), I n] (.sl 1 ((numP p n).map I)) := by
  have hsd := hs.du
  have hsw := hs.wk
  have hld : (p.duties.map duav).length = p.duties.length := by simp
  have hlw : (p.workers.map wkav).length = p.workers.length := by simp
  have hlr : (List.replicate p.duties.length (AV.v (.int .i64 0))).length = p.duties.length := by simp
  refine fn_run (T := tab) Tryz.func22 rfl Tryz.ntmps22 rfl Tryz.results22 (fun _ => ?_)
  repeat' ((conv => whnf) <;> (first | refine nR (T := tab) ?_ | (refine LK.eff (Eff.mkS (T := tab) (N := p.duties.length) (z := .int .i64 0) rfl rfl rfl rfl (congrArg (fun q : Nat => some (I (q : Int))) hld) (by omega)) ?_ <;> rintro _ _ ⟨A1, B1, C1, rfl, rfl⟩) | refine zM ?_ | refine zW ?_ | intro _ | exact zF | refine Br.tt ?_ | refine Br.ff ?_ | (refine Br.mk (fun h => ?_) (fun h => ?_) <;> (try simp only [sh] at h) <;> try first | (exfalso; omega) | exact absurd trivial h | (simp at h; done)) | refine zA ?_ | refine zN ?_ | refine zO ?_ | refine zP ?_ | refine zB ?_ | refine zQ ?_ | refine Quo.t Qw ?_ | refine zR ?_ | refine Rem.t Qw ?_ | refine lB ?_ | refine lBA ?_ | refine zK ?_ | refine s1 ?_ | refine sA ?_ | refine pS ?_ | refine Kx.nil ?_ | refine Kx.stp rfl rfl Qs ?_ | refine kA ?_ | refine kS ?_ | (refine Kx.frzR 0 rfl ?_ <;> refine kF ?_) | refine kP ?_ | refine k1 ?_ | refine kB ?_ | refine kL ?_ | refine zC ?_ | fail))
  rw [hlr]
  rename_i bp
  (conv => whnf); refine CK.loopK [1, 6, 14, 15, 16, 17, 18, 19, 20, 21, 22, 23, 24, 25, 26, 27, 28, 29, 30] (σ := Nat × Nat × List Int) (fun s => s.1 ≤ p.duties.length ∧ s.2.1 ≤ n ∧ s.1 + s.2.2.length = p.duties.length ∧ numP p n = numD p.workers.length s.1 s.2.1 ++ s.2.2) (fun ⟨k, m, _⟩ => [(1, I m), (6, I ((k : Int) - 1))]) (fun ⟨k, _, l⟩ => [.row (.slice A1 B1 C1) 3 1 0 false ((List.replicate k 0 ++ l).map I)]) [.blk bp 32 false (pcs p)] (fun s => s.1) (p.duties.length, n, []) ⟨Nat.le_refl _, Nat.le_refl _, by simp, by simp [numP]⟩ Qy (by
    have e : (List.replicate p.duties.length (0 : Int) ++ []).map I = List.replicate p.duties.length (AV.v (.int .i64 0)) := by rw [List.append_nil, List.map_replicate]
    dsimp only
    rw [e]
    exact Qs) ?_
  conv => whnf
  rintro ⟨k, m, l⟩ ⟨i1, i2, i3, i4⟩
  simp only at i1 i2 i3 i4
  dsimp only
  cases k with
  | zero =>
    repeat' ((conv => whnf) <;> (first | refine zM ?_ | refine zW ?_ | intro _ | exact zF | refine Br.tt ?_ | refine Br.ff ?_ | (refine Br.mk (fun h => ?_) (fun h => ?_) <;> (try simp only [sh] at h) <;> try first | (exfalso; omega) | exact absurd trivial h | (simp at h; done)) | refine zA ?_ | refine zN ?_ | refine zO ?_ | refine zP ?_ | refine zB ?_ | refine zQ ?_ | refine Quo.t Qw ?_ | refine zR ?_ | refine Rem.t Qw ?_ | refine lB ?_ | refine lBA ?_ | refine zK ?_ | refine s1 ?_ | refine sA ?_ | refine pS ?_ | refine Kx.nil ?_ | refine Kx.stp rfl rfl Qs ?_ | refine kA ?_ | refine kS ?_ | (refine Kx.frzR 0 rfl ?_ <;> refine kF ?_) | refine kP ?_ | refine k1 ?_ | refine kB ?_ | refine kL ?_ | refine zC ?_ | fail))
    conv => whnf
    rw [i4, numD]
    exact .frzR 0 rfl (.see (.row 0 rfl) (.out [] (List.nil_sublist _) ⟨rfl, rfl⟩))
  | succ k =>
    have hw := hW (by omega)
    have hll : ((List.replicate (k + 1) (0 : Int) ++ l).map I).length = p.duties.length := by simp; omega
    have ha : (((k + 1 : Nat) : Int) - 1).toNat = k := by omega
    have hmod : (m : Int) % ((p.workers.map wkav).length : Int) = ((m % p.workers.length : Nat) : Int) := by rw [hlw, Int.natCast_emod]
    have hdiv : (m : Int) / ((p.workers.map wkav).length : Int) = ((m / p.workers.length : Nat) : Int) := by rw [hlw, Int.natCast_ediv]
    have hset : ((List.replicate (k + 1) (0 : Int) ++ l).map I).set (((k + 1 : Nat) : Int) - 1).toNat ((I ((List.replicate (k + 1) (0 : Int) ++ l).getD (((k + 1 : Nat) : Int) - 1).toNat default)).setCell 0 (I ((m : Int) % ((p.workers.map wkav).length : Int)))) = (List.replicate k 0 ++ (((m % p.workers.length : Nat) : Int) :: l)).map I := by
      rw [ha, hmod]
      have e1 : List.replicate (k + 1) (0 : Int) = List.replicate k 0 ++ [0] := by rw [List.replicate_succ']
      rw [e1, List.append_assoc, List.map_append, List.set_append_right _ _ (by simp), List.map_append, List.length_map, List.length_replicate, Nat.sub_self, List.map_append]
      rfl
    have h6 : ((k + 1 : Nat) : Int) - 1 - 1 = (k : Int) - 1 := by omega
    have hdle : m / p.workers.length ≤ n := Nat.le_trans (Nat.div_le_self _ _) i2
    repeat' ((conv => whnf) <;> (first | (refine LK.stRM (a := (((k + 1 : Nat) : Int) - 1).toNat) (j := 0) 0 rfl rfl rfl rfl rfl (Nat.zero_le _) (by simp; omega) rfl rfl ?_ <;> rw [hset]) | refine iR (T := tab) ?_ | refine nR (T := tab) ?_ | refine zM ?_ | refine zW ?_ | intro _ | exact zF | refine Br.tt ?_ | refine Br.ff ?_ | (refine Br.mk (fun h => ?_) (fun h => ?_) <;> (try simp only [sh] at h) <;> try first | (exfalso; omega) | exact absurd trivial h | (simp at h; done)) | refine zA ?_ | refine zN ?_ | refine zO ?_ | refine zP ?_ | refine zB ?_ | refine zQ ?_ | refine Quo.t Qw ?_ | refine zR ?_ | refine Rem.t Qw ?_ | refine lB ?_ | refine lBA ?_ | refine lM ?_ | refine lM0 ?_ | refine lMA ?_ | refine sM ?_ | refine zK ?_ | refine s1 ?_ | refine sA ?_ | refine pS ?_ | refine Kx.nil ?_ | refine Kx.stp rfl rfl Qs ?_ | refine kA ?_ | refine kS ?_ | (refine Kx.frzR 0 rfl ?_ <;> refine kF ?_) | refine kP ?_ | refine k1 ?_ | refine kB ?_ | refine kL ?_ | refine zC ?_ | fail))
    rw [hdiv, h6]
    (conv => whnf); (refine Nxt.of ((k, m / p.workers.length, ((m % p.workers.length : Nat) : Int) :: l)) [1, 6, 14, 15, 16, 17, 18, 19, 20, 21, 22, 23, 24, 25, 26, 27, 28, 29, 30] Qr Qr Qr ?_ ?_ Qy ?_ <;> (try dsimp only) <;> (try omega))
    · exact ⟨by omega, hdle, by simp; omega, by rw [i4, numD, List.append_assoc]; rfl⟩
    · exact Qs
end Go.Proofs.YtecemgicnboaaaaGreat
