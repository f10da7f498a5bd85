/-
  Walks: reference 20: Workable, Best.
  Conditions: those of each theorem.
-/
import Derived.Test.YtecemgicnboaaaaGreatNB2
import Derived.Test.YtecemgicnboaaaaGreatRF4
namespace Go.Proofs.YtecemgicnboaaaaGreat
open Go.E2 Go.Wage
def wkb (p : Pl) (ro : List Int) : Bool := (ro.all fun w => decide (0 ≤ w)) && okRo p ro && (badP p ro).isEmpty
set_option maxRecDepth 4000 in
set_option maxHeartbeats 8000000 in
theorem c0Work_ok (p : Pl) (ro : List Int) (hs : Small p) (hl : ro.length ≤ 1000) : FnA Tryz.prog 35 [.agg (pcs p), .sl 1 (ro.map I)] (B (wkb p ro)) := by
  have hlr : (ro.map I).length = ro.length := by simp
  refine fn_run (T := tab) Tryz.func35 rfl Tryz.ntmps35 rfl Tryz.results35 (fun _ => ?_)
  repeat' ((conv => whnf) <;> (first | refine zM ?_ | refine zW ?_ | intro _ | exact zF | refine Br.tt ?_ | refine Br.ff ?_ | (refine Br.mk (fun h => ?_) (fun h => ?_) <;> (try simp only [sh] at h) <;> try first | (exfalso; omega) | exact absurd trivial h | (simp at h; done)) | refine zA ?_ | refine zN ?_ | refine zO ?_ | refine zP ?_ | refine zB ?_ | refine lB ?_ | refine lBA ?_ | refine zK ?_ | refine s1 ?_ | refine sA ?_ | refine zC ?_ | fail))
  (conv => whnf); refine CK.loopK [4, 5, 8, 9, 10, 11, 12, 13, 14, 15, 16, 17, 18] (σ := Nat) (fun i => i ≤ ro.length ∧ ∀ j, j < i → 0 ≤ ro.getD j default) (fun i => [(5, I i)]) (fun _ => []) _ (fun i => ro.length - i) 0 ⟨Nat.zero_le _, by omega⟩ Qy (List.Sublist.refl _) ?_
  conv => whnf
  rintro i ⟨i1, i2⟩
  by_cases hi : i < ro.length
  · repeat' ((conv => whnf) <;> (first | refine zM ?_ | refine zW ?_ | intro _ | exact zF | refine Br.tt ?_ | refine Br.ff ?_ | (refine Br.mk (fun h => ?_) (fun h => ?_) <;> (try simp only [sh] at h) <;> try first | (exfalso; omega) | exact absurd trivial h | (simp at h; done)) | refine zA ?_ | refine zN ?_ | refine zO ?_ | refine zP ?_ | refine zB ?_ | refine lB ?_ | refine lBA ?_ | refine zK ?_ | refine s1 ?_ | refine sA ?_ | refine zC ?_ | fail))
    · conv => whnf
      refine Fin.pure (congrArg B ?_)
      unfold wkb
      rw [show (ro.all fun w => decide (0 ≤ w)) = false from ?_]
      · rfl
      · refine Bool.eq_false_iff.2 fun hh => ?_
        rw [List.all_eq_true] at hh
        have := hh _ (getD_mem hi)
        rw [decide_eq_true_eq] at this
        omega
    · (conv => whnf); (refine Nxt.of (i + 1) [4, 5, 8, 9, 10, 11, 12, 13, 14, 15, 16, 17, 18] Qr Qr Qr ?_ ?_ Qy Qs <;> (try dsimp only) <;> (try omega))
      refine ⟨by omega, fun j hj => ?_⟩
      rcases Nat.lt_or_eq_of_le (Nat.le_of_lt_succ hj) with h1 | rfl
      · exact i2 j h1
      · omega
  · obtain rfl : i = ro.length := by omega
    have hall : (ro.all fun w => decide (0 ≤ w)) = true := by
      rw [List.all_eq_true]
      intro x hx
      obtain ⟨j, hj, rfl⟩ := List.getElem_of_mem hx
      have := i2 j hj
      rw [getD_at hj] at this
      exact decide_eq_true this
    have c1 := v8Bad_ok p ro hs (by omega)
    repeat' ((conv => whnf) <;> (first | refine zM ?_ | refine zW ?_ | intro _ | exact zF | refine Br.tt ?_ | refine Br.ff ?_ | (refine Br.mk (fun h => ?_) (fun h => ?_) <;> (try simp only [sh] at h) <;> try first | (exfalso; omega) | exact absurd trivial h | (simp at h; done)) | refine zA ?_ | refine zN ?_ | refine zO ?_ | refine zP ?_ | refine zB ?_ | refine zL ent42 c1 ?_ | refine zG ent42 (fun h => c1) ?_ | refine lB ?_ | refine lBA ?_ | refine zK ?_ | refine s1 ?_ | refine sA ?_ | refine zC ?_ | fail))
    conv => whnf
    refine Fin.pure (congrArg B ?_)
    unfold wkb
    rw [hall]
    cases hk : okRo p ro with
    | false => simp
    | true =>
      cases hb : badP p ro with
      | nil => simp
      | cons x l =>
        simp
        omega
/-- the least of the first rosters by number -/
def updB (p : Pl) (s : BS) (ro : List Int) : BS := if wkb p ro && (!s.found || decide ((if okRo p ro then costP p ro p.duties else 0) < s.cost)) then ⟨true, ro, if okRo p ro then costP p ro p.duties else 0⟩ else s
def bestN (p : Pl) (k : Nat) : BS := ((List.range k).map (numP p)).foldl (updB p) ⟨false, [], 0⟩
theorem bestN_succ (p : Pl) (k : Nat) : bestN p (k + 1) = updB p (bestN p k) (numP p k) := by
  unfold bestN
  rw [List.range_succ, List.map_append, List.foldl_append]
  rfl
set_option maxRecDepth 4000 in
set_option maxHeartbeats 8000000 in
theorem c0Best_ok (p : Pl) (hs : Small p) : FnA Tryz.prog 13 [.agg (pcs p)] (.tup [.sl 1 ((bestN p (cntP p 5000).toNat).best.map I), I (bestN p (cntP p 5000).toNat).cost, B (bestN p (cntP p 5000).toNat).found]) := by
  have hsd := hs.du
  have c1 := c0Count_ok p 5000 hs (by omega)
  have hcn : 0 ≤ cntP p 5000 ∧ cntP p 5000 ≤ 5001 := by unfold cntP; omega
  have hcp : cntP p 5000 ≤ ((p.workers.length ^ p.duties.length : Nat) : Int) := by unfold cntP; omega
  refine fn_run (T := tab) Tryz.func13 rfl Tryz.ntmps13 rfl Tryz.results13 (fun _ => ?_)
  repeat' ((conv => whnf) <;> (first | refine zM ?_ | refine zW ?_ | intro _ | exact zF | refine Br.tt ?_ | refine Br.ff ?_ | (refine Br.mk (fun h => ?_) (fun h => ?_) <;> (try simp only [sh] at h) <;> try first | (exfalso; omega) | exact absurd trivial h | (simp at h; done)) | refine zA ?_ | refine zN ?_ | refine zO ?_ | refine zP ?_ | refine zB ?_ | refine zL ent23 c1 ?_ | refine zG ent23 (fun h => c1) ?_ | refine lB ?_ | refine lBA ?_ | refine zK ?_ | refine s1 ?_ | refine sA ?_ | refine zC ?_ | fail))
  refine CK.see 5 rfl (Sb.nil (k := 1)) ?_
  generalize hN : cntP p 5000 = N at *
  (conv => whnf); refine CK.loopK [5, 6, 7, 9, 10, 11, 12, 13, 16, 17, 18, 19, 20, 21, 22, 23, 24, 25, 26, 27, 28, 29, 30, 31, 32, 33, 34, 35, 36, 37, 38, 39, 40, 41, 42, 43, 44] (σ := Nat × BS) (fun q => (q.1 : Int) ≤ N ∧ q.2 = bestN p q.1) (fun ⟨i, s⟩ => [(5, .sl 1 (s.best.map I)), (6, I s.cost), (7, B s.found), (9, I i)]) (fun _ => []) _ (fun q => N.toNat - q.1) (0, ⟨false, [], 0⟩) ⟨by simp only; omega, rfl⟩ Qy (List.Sublist.refl _) ?_
  conv => whnf
  rintro ⟨i, s⟩ ⟨i1, i2⟩
  simp only at i1 i2
  dsimp only
  by_cases hi : (i : Int) < N
  · have hW : 0 < p.duties.length → 0 < p.workers.length := fun h => by
      rcases Nat.eq_zero_or_pos p.workers.length with h0 | h0
      · rw [h0, Nat.zero_pow h] at hcp
        omega
      · exact h0
    have c2 := c0Num_ok p i hs (by omega) hW
    have hln : (numP p i).length ≤ 1000 := by unfold numP; rw [numD_len]; omega
    have c3 := c0Work_ok p (numP p i) hs hln
    have c4 := v8Cost_ok p (numP p i) hs (by omega)
    have hst := bestN_succ p i
    rw [← i2] at hst
    unfold updB at hst
    repeat' ((conv => whnf) <;> (first | refine zM ?_ | refine zW ?_ | intro _ | exact zF | refine Br.tt ?_ | refine Br.ff ?_ | (refine Br.mk (fun h => ?_) (fun h => ?_) <;> (try simp only [sh] at h) <;> try first | (exfalso; omega) | exact absurd trivial h | (simp at h; done)) | refine zA ?_ | refine zN ?_ | refine zO ?_ | refine zP ?_ | refine zB ?_ | refine zL ent22 c2 ?_ | refine zG ent22 (fun h => c2) ?_ | refine zL ent35 c3 ?_ | refine zG ent35 (fun h => c3) ?_ | refine zL ent36 c4 ?_ | refine zG ent36 (fun h => c4) ?_ | refine lB ?_ | refine lBA ?_ | refine zK ?_ | refine s1 ?_ | refine sA ?_ | refine zC ?_ | fail))
    · rename_i _ h
      rw [if_pos (by rw [h.1]; rcases h.2 with h2 | h2 <;> simp [h2])] at hst
      (conv => whnf); (refine Nxt.of ((i + 1, ⟨true, numP p i, if okRo p (numP p i) then costP p (numP p i) p.duties else 0⟩)) [5, 6, 7, 9, 10, 11, 12, 13, 16, 17, 18, 19, 20, 21, 22, 23, 24, 25, 26, 27, 28, 29, 30, 31, 32, 33, 34, 35, 36, 37, 38, 39, 40, 41, 42, 43, 44] Qr Qr Qr ?_ ?_ Qy Qs <;> (try dsimp only) <;> (try omega))
      exact ⟨by omega, hst.symm⟩
    · rename_i _ h
      rw [if_neg (by rcases h with h2 | h2 <;> simp [h2])] at hst
      (conv => whnf); (refine Nxt.of ((i + 1, s)) [5, 6, 7, 9, 10, 11, 12, 13, 16, 17, 18, 19, 20, 21, 22, 23, 24, 25, 26, 27, 28, 29, 30, 31, 32, 33, 34, 35, 36, 37, 38, 39, 40, 41, 42, 43, 44] Qr Qr Qr ?_ ?_ Qy Qs <;> (try dsimp only) <;> (try omega))
      exact ⟨by omega, hst.symm⟩
  · have hiN : i = N.toNat := by omega
    repeat' ((conv => whnf) <;> (first | refine zM ?_ | refine zW ?_ | intro _ | exact zF | refine Br.tt ?_ | refine Br.ff ?_ | (refine Br.mk (fun h => ?_) (fun h => ?_) <;> (try simp only [sh] at h) <;> try first | (exfalso; omega) | exact absurd trivial h | (simp at h; done)) | refine zA ?_ | refine zN ?_ | refine zO ?_ | refine zP ?_ | refine zB ?_ | refine lB ?_ | refine lBA ?_ | refine zK ?_ | refine s1 ?_ | refine sA ?_ | refine zC ?_ | fail))
    conv => whnf
    rw [i2, hiN]
    exact Fin.pure rfl
end Go.Proofs.YtecemgicnboaaaaGreat
