/-
  Walks: the reference of chapter 21, and its comparison with package refute.
  Conditions: those of each theorem.
-/
import Derived.Test.YthjllgabmgkocaaGreatRG9
import Derived.Test.YthjllgabmgkocaaGreatRF3
namespace Go.Proofs.YthjllgabmgkocaaGreat
open Go.E2 Go.Wage
theorem bNeg_ok (l : Lt) : FnA Tryz.prog 77 [ltav l] (ltav (negL l)) := by
  refine fn_run (T := tab) Tryz.func77 rfl Tryz.ntmps77 rfl Tryz.results77 (fun _ => ?_)
  repeat' ((conv => whnf) <;> (first | refine Must.mk (fun h => h) ?_ | refine Must.mk (fun _ => rfl) ?_ | refine Must.mk Qw ?_ | refine MW.ok Qw ?_ | intro _ | exact Fin.pure rfl | refine Fin.pure ?_ | refine Br.tt ?_ | refine Br.ff ?_ | (refine Br.mk (fun h => ?_) (fun h => ?_) <;> (try simp only [sh] at h) <;> (try first | (exfalso; omega) | exact absurd trivial h | (exfalso; simp at h; done))) | refine Ix.at ‹_› Qw ?_ | refine Ix.mapN Qw ?_ | refine Ix.mapN1 Qw ?_ | refine Ix.map Qw ?_ | refine Ix.at Qi Qw ?_ | refine lB (T := tab) ?_ | refine lBA (T := tab) ?_ | refine rA (T := tab) ?_ | refine r1 (T := tab) ?_ | refine LK.askW rfl ?_ | refine s1 ?_ | refine sA ?_ | refine CK.any false Qk ?_ | fail))
theorem bProper_ok (p : Pl) (l : List Lt) (_hd : p.duties.length ≤ 1000) (_hw : p.workers.length ≤ 1000) (hl : l.length ≤ 100000) : FnA Tryz.prog 44 [.agg (pcs p), .sl 3 (l.map ltav)] (B (l.all (properB p))) := by
  have hld : (p.duties.map duav).length = p.duties.length := by simp
  have hlw : (p.workers.map wkav).length = p.workers.length := by simp
  have hll : (l.map ltav).length = l.length := by simp
  refine fn_run (T := tab) Tryz.func44 rfl Tryz.ntmps44 rfl Tryz.results44 (fun _ => ?_)
  repeat' ((conv => whnf) <;> (first | refine Must.mk (fun h => h) ?_ | refine Must.mk (fun _ => rfl) ?_ | refine Must.mk Qw ?_ | refine MW.ok Qw ?_ | intro _ | exact Fin.pure rfl | refine Br.tt ?_ | refine Br.ff ?_ | (refine Br.mk (fun h => ?_) (fun h => ?_) <;> (try simp only [sh] at h) <;> (try first | (exfalso; omega) | exact absurd trivial h | (exfalso; simp at h; done))) | refine Ix.at ‹_› Qw ?_ | refine Ix.mapN Qw ?_ | refine Ix.mapN1 Qw ?_ | refine Ix.map Qw ?_ | refine Ix.at Qi Qw ?_ | refine lB (T := tab) ?_ | refine lBA (T := tab) ?_ | refine rA (T := tab) ?_ | refine r1 (T := tab) ?_ | refine LK.askW rfl ?_ | refine s1 ?_ | refine sA ?_ | refine CK.any false Qk ?_ | fail))
  (conv => whnf); refine CK.loop [4, 5, 6, 7, 8, 9, 10, 11, 12, 13, 14, 15, 16, 17, 18, 19, 20, 21, 22, 23, 24, 25, 26, 27, 28, 29, 30, 31, 32, 33, 34, 35, 36, 37, 38, 39, 40, 41, 42, 43, 44, 45, 46, 47] (σ := Nat) (fun k => k ≤ l.length ∧ (l.take k).all (properB p) = true) (fun k => [(5, I k)]) (fun _ => _) (fun k => l.length - k) 0 ⟨Nat.zero_le _, rfl⟩ Qy (List.Sublist.refl _) ?_
  conv => whnf
  rintro k ⟨i1, i2⟩
  by_cases hk : k < l.length
  · repeat' ((conv => whnf) <;> (first | refine Must.mk (fun h => h) ?_ | refine Must.mk (fun _ => rfl) ?_ | refine Must.mk Qw ?_ | refine MW.ok Qw ?_ | intro _ | exact Fin.pure rfl | refine Br.tt ?_ | refine Br.ff ?_ | (refine Br.mk (fun h => ?_) (fun h => ?_) <;> (try simp only [sh] at h) <;> (try first | (exfalso; omega) | exact absurd trivial h | (exfalso; simp at h; done))) | refine Ix.at ‹_› Qw ?_ | refine Ix.mapN Qw ?_ | refine Ix.mapN1 Qw ?_ | refine Ix.map Qw ?_ | refine Ix.at Qi Qw ?_ | refine lB (T := tab) ?_ | refine lBA (T := tab) ?_ | refine rA (T := tab) ?_ | refine r1 (T := tab) ?_ | refine LK.askW rfl ?_ | refine s1 ?_ | refine sA ?_ | refine CK.any false Qk ?_ | fail))
    · conv => whnf
      refine Fin.pure (congrArg B (all_at hk ?_).symm)
      rw [Bool.eq_false_iff, ne_eq, properB_iff]
      omega
    · (conv => whnf); (refine Nxt.of (k + 1) [4, 5, 6, 7, 8, 9, 10, 11, 12, 13, 14, 15, 16, 17, 18, 19, 20, 21, 22, 23, 24, 25, 26, 27, 28, 29, 30, 31, 32, 33, 34, 35, 36, 37, 38, 39, 40, 41, 42, 43, 44, 45, 46, 47] Qr Qr Qr ?_ ?_ Qy Qs <;> (try dsimp only) <;> (try omega))
      exact ⟨hk, all_take i2 hk (properB_iff.2 (by omega))⟩
  · repeat' ((conv => whnf) <;> (first | refine Must.mk (fun h => h) ?_ | refine Must.mk (fun _ => rfl) ?_ | refine Must.mk Qw ?_ | refine MW.ok Qw ?_ | intro _ | exact Fin.pure rfl | refine Br.tt ?_ | refine Br.ff ?_ | (refine Br.mk (fun h => ?_) (fun h => ?_) <;> (try simp only [sh] at h) <;> (try first | (exfalso; omega) | exact absurd trivial h | (exfalso; simp at h; done))) | refine Ix.at ‹_› Qw ?_ | refine Ix.mapN Qw ?_ | refine Ix.mapN1 Qw ?_ | refine Ix.map Qw ?_ | refine Ix.at Qi Qw ?_ | refine lB (T := tab) ?_ | refine lBA (T := tab) ?_ | refine rA (T := tab) ?_ | refine r1 (T := tab) ?_ | refine LK.askW rfl ?_ | refine s1 ?_ | refine sA ?_ | refine CK.any false Qk ?_ | fail))
    conv => whnf
    rw [List.take_of_length_le (by omega)] at i2
    exact Fin.pure (congrArg B i2.symm)
theorem rowB_iff {cl : List Lt} {i : Nat} : rowB cl i = true ↔ (cl.getD i default).is = true ∧ (cl.getD i default).wk = i ∧ (cl.getD i default).du = (cl.getD 0 default).du := by
  unfold rowB
  rw [← eqLt]
  simp only [Bool.and_eq_true, decide_eq_true_eq, beq_iff_eq, and_true]
  grind
def someC (p : Pl) (cl : List Lt) : Bool := decide (0 < p.duties.length) && decide (cl.length = p.workers.length) && (List.range cl.length).all (rowB cl)
theorem bSome_ok (p : Pl) (l : List Lt) (hd : p.duties.length ≤ 1000) (hw : p.workers.length ≤ 1000) (_hl : l.length ≤ 100000) : FnA Tryz.prog 45 [.agg (pcs p), .sl 3 (l.map ltav)] (B (someC p l)) := by
  have hld : (p.duties.map duav).length = p.duties.length := by simp
  have hlw : (p.workers.map wkav).length = p.workers.length := by simp
  have hll : (l.map ltav).length = l.length := by simp
  refine fn_run (T := tab) Tryz.func45 rfl Tryz.ntmps45 rfl Tryz.results45 (fun _ => ?_)
  repeat' ((conv => whnf) <;> (first | refine Must.mk (fun h => h) ?_ | refine Must.mk (fun _ => rfl) ?_ | refine Must.mk Qw ?_ | refine MW.ok Qw ?_ | intro _ | exact Fin.pure rfl | refine Br.tt ?_ | refine Br.ff ?_ | (refine Br.mk (fun h => ?_) (fun h => ?_) <;> (try simp only [sh] at h) <;> (try first | (exfalso; omega) | exact absurd trivial h | (exfalso; simp at h; done))) | refine Ix.at ‹_› Qw ?_ | refine Ix.mapN Qw ?_ | refine Ix.mapN1 Qw ?_ | refine Ix.map Qw ?_ | refine Ix.at Qi Qw ?_ | refine lB (T := tab) ?_ | refine lBA (T := tab) ?_ | refine rA (T := tab) ?_ | refine r1 (T := tab) ?_ | refine LK.askW rfl ?_ | refine s1 ?_ | refine sA ?_ | refine CK.any false Qk ?_ | fail))
  · conv => whnf
    refine Fin.pure (congrArg B ?_)
    refine (Bool.eq_false_iff.2 fun hc => ?_).symm
    unfold someC at hc
    simp only [Bool.and_eq_true, decide_eq_true_eq] at hc
    omega
  have hS : someC p l = (List.range l.length).all (rowB l) := by
    unfold someC
    rw [decide_eq_true (by omega), decide_eq_true (by omega)]
    rfl
  (conv => whnf); refine CK.loop [4, 5, 18, 19, 20, 21, 22, 23, 24, 25, 26, 27, 28, 29, 30, 31, 32, 33, 34, 35, 36, 37, 38, 39, 40, 41, 42, 43, 44, 45, 46, 47, 48, 49, 50] (σ := Nat) (fun k => k ≤ l.length ∧ (List.range k).all (rowB l) = true) (fun k => [(5, I k)]) (fun _ => _) (fun k => l.length - k) 0 ⟨Nat.zero_le _, rfl⟩ Qy (List.Sublist.refl _) ?_
  conv => whnf
  rintro k ⟨i1, i2⟩
  by_cases hk : k < l.length
  · repeat' ((conv => whnf) <;> (first | refine Must.mk (fun h => h) ?_ | refine Must.mk (fun _ => rfl) ?_ | refine Must.mk Qw ?_ | refine MW.ok Qw ?_ | intro _ | exact Fin.pure rfl | refine Br.tt ?_ | refine Br.ff ?_ | (refine Br.mk (fun h => ?_) (fun h => ?_) <;> (try simp only [sh] at h) <;> (try first | (exfalso; omega) | exact absurd trivial h | (exfalso; simp at h; done))) | refine Ix.at ‹_› Qw ?_ | refine Ix.mapN Qw ?_ | refine Ix.mapN1 Qw ?_ | refine Ix.map Qw ?_ | refine Ix.at Qi Qw ?_ | refine lB (T := tab) ?_ | refine lBA (T := tab) ?_ | refine rA (T := tab) ?_ | refine r1 (T := tab) ?_ | refine LK.askW rfl ?_ | refine s1 ?_ | refine sA ?_ | refine CK.any false Qk ?_ | fail))
    · conv => whnf
      refine Fin.pure (congrArg B ?_)
      rw [hS, all_fail hk]
      rw [Bool.eq_false_iff, ne_eq, rowB_iff]
      grind
    · (conv => whnf); (refine Nxt.of (k + 1) [4, 5, 18, 19, 20, 21, 22, 23, 24, 25, 26, 27, 28, 29, 30, 31, 32, 33, 34, 35, 36, 37, 38, 39, 40, 41, 42, 43, 44, 45, 46, 47, 48, 49, 50] Qr Qr Qr ?_ ?_ Qy Qs <;> (try dsimp only) <;> (try omega))
      refine ⟨hk, all_succ i2 (rowB_iff.2 ?_)⟩
      grind
  · obtain rfl : k = l.length := by omega
    repeat' ((conv => whnf) <;> (first | refine Must.mk (fun h => h) ?_ | refine Must.mk (fun _ => rfl) ?_ | refine Must.mk Qw ?_ | refine MW.ok Qw ?_ | intro _ | exact Fin.pure rfl | refine Br.tt ?_ | refine Br.ff ?_ | (refine Br.mk (fun h => ?_) (fun h => ?_) <;> (try simp only [sh] at h) <;> (try first | (exfalso; omega) | exact absurd trivial h | (exfalso; simp at h; done))) | refine Ix.at ‹_› Qw ?_ | refine Ix.mapN Qw ?_ | refine Ix.mapN1 Qw ?_ | refine Ix.map Qw ?_ | refine Ix.at Qi Qw ?_ | refine lB (T := tab) ?_ | refine lBA (T := tab) ?_ | refine rA (T := tab) ?_ | refine r1 (T := tab) ?_ | refine LK.askW rfl ?_ | refine s1 ?_ | refine sA ?_ | refine CK.any false Qk ?_ | fail))
    conv => whnf
    exact Fin.pure (congrArg B (hS.trans i2).symm)
def oneC (cl : List Lt) : Bool := decide (cl.length = 2) && (!(cl.getD 0 default).is && !(cl.getD 1 default).is && decide ((cl.getD 0 default).du = (cl.getD 1 default).du) && decide ((cl.getD 0 default).wk < (cl.getD 1 default).wk))
theorem bOne_ok (l : List Lt) (_hl : l.length ≤ 100000) : FnA Tryz.prog 46 [.sl 3 (l.map ltav)] (B (oneC l)) := by
  have hll : (l.map ltav).length = l.length := by simp
  refine fn_run (T := tab) Tryz.func46 rfl Tryz.ntmps46 rfl Tryz.results46 (fun _ => ?_)
  repeat' ((conv => whnf) <;> (first | refine Must.mk (fun h => h) ?_ | refine Must.mk (fun _ => rfl) ?_ | refine Must.mk Qw ?_ | refine MW.ok Qw ?_ | intro _ | exact Fin.pure rfl | refine Br.tt ?_ | refine Br.ff ?_ | (refine Br.mk (fun h => ?_) (fun h => ?_) <;> (try simp only [sh] at h) <;> (try first | (exfalso; omega) | exact absurd trivial h | (exfalso; simp at h; done))) | refine Ix.at ‹_› Qw ?_ | refine Ix.mapN Qw ?_ | refine Ix.mapN1 Qw ?_ | refine Ix.map Qw ?_ | refine Ix.at Qi Qw ?_ | refine lB (T := tab) ?_ | refine lBA (T := tab) ?_ | refine rA (T := tab) ?_ | refine r1 (T := tab) ?_ | refine LK.askW rfl ?_ | refine s1 ?_ | refine sA ?_ | refine CK.any false Qk ?_ | fail))
  conv => whnf
  refine Fin.pure (congrArg B ?_)
  unfold oneC
  rw [hll]
  by_cases h2 : l.length = 2
  · rw [decide_eq_true h2, decide_eq_true (by omega)]
    simp only [Bool.true_and]
    rfl
  · rw [decide_eq_false h2, decide_eq_false (by omega)]
    simp only [Bool.false_and]
def denC (p : Pl) (cl : List Lt) : Option (List Int) := denL cl (List.replicate p.duties.length (-1))
theorem set_Ir (l : List Int) (a : Nat) (x : Int) : (l.map I).set a ((I (l.getD a default)).setCell 0 (I x)) = (l.set a x).map I := by
  rw [List.map_set]; rfl
theorem denL_at {cl : List Lt} {ro : List Int} {k : Nat} (hk : k < cl.length) : denL (cl.drop k) ro = if (!(cl.getD k default).is && decide (ro.getD (cl.getD k default).du.toNat default < 0)) = true then denL (cl.drop (k + 1)) (ro.set (cl.getD k default).du.toNat (cl.getD k default).wk) else none := by
  rw [dropG hk, denL]
set_option maxRecDepth 4000 in
set_option maxHeartbeats 4000000 in
theorem bPartial_ok (p : Pl) (l : List Lt) (hd : p.duties.length ≤ 1000) (hl : l.length ≤ 100000) (hp : l.all (properB p) = true) :
    FnA Tryz.prog 73 [.agg (pcs p), .sl 3 (l.map ltav)] (.tup [.sl 1 (((denC p l).getD []).map I), B ((denC p l).isSome && decide (0 < l.length))]) := by
  have hld : (p.duties.map duav).length = p.duties.length := by simp
  have hll : (l.map ltav).length = l.length := by simp
  refine fn_run (T := tab) Tryz.func73 rfl Tryz.ntmps73 rfl Tryz.results73 (fun _ => ?_)
  repeat' ((conv => whnf) <;> (first | refine Must.mk (fun h => h) ?_ | refine Must.mk (fun _ => rfl) ?_ | refine Must.mk Qw ?_ | refine MW.ok Qw ?_ | intro _ | exact Fin.pure rfl | refine Br.tt ?_ | refine Br.ff ?_ | (refine Br.mk (fun h => ?_) (fun h => ?_) <;> (try simp only [sh] at h) <;> (try first | (exfalso; omega) | exact absurd trivial h | (exfalso; simp at h; done))) | refine Ix.at ‹_› Qw ?_ | refine Ix.mapN Qw ?_ | refine Ix.mapN1 Qw ?_ | refine Ix.map Qw ?_ | refine Ix.at Qi Qw ?_ | refine lB (T := tab) ?_ | refine lBA (T := tab) ?_ | refine rA (T := tab) ?_ | refine r1 (T := tab) ?_ | refine LK.askW rfl ?_ | refine s1 ?_ | refine sA ?_ | refine CK.any false Qk ?_ | fail))
  refine CK.nilrow 3 1 ?_
  (conv => whnf); refine CK.loopK [6, 7, 9, 10, 11, 12, 13, 14, 15, 16, 17, 18] (σ := Nat × Option Addr × Nat × Nat) (fun s => s.1 ≤ p.duties.length) (fun ⟨k, A, q, cp⟩ => [(7, I k), (6, .v (.slice A q cp))]) (fun ⟨k, A, q, cp⟩ => [.row (.slice A q cp) 3 1 0 false ((List.replicate k (-1)).map I)]) _ (fun s => p.duties.length - s.1) (0, none, 0, 0) (Nat.zero_le _) Qy (List.Sublist.refl _) ?_
  conv => whnf
  rintro ⟨k, A, q, cp⟩ i1
  simp only at i1
  have hlr : ((List.replicate k (-1)).map I).length = k := by simp
  by_cases hk : k < p.duties.length
  · repeat' ((conv => whnf) <;> (first | refine Must.mk (fun h => h) ?_ | refine Must.mk (fun _ => rfl) ?_ | refine Must.mk Qw ?_ | refine MW.ok Qw ?_ | intro _ | exact Fin.pure rfl | refine Br.tt ?_ | refine Br.ff ?_ | (refine Br.mk (fun h => ?_) (fun h => ?_) <;> (try simp only [sh] at h) <;> (try first | (exfalso; omega) | exact absurd trivial h | (exfalso; simp at h; done))) | refine Ix.at ‹_› Qw ?_ | refine Ix.mapN Qw ?_ | refine Ix.mapN1 Qw ?_ | refine Ix.map Qw ?_ | refine Ix.at Qi Qw ?_ | refine lB (T := tab) ?_ | refine lBA (T := tab) ?_ | refine rA (T := tab) ?_ | refine r1 (T := tab) ?_ | refine LK.askW rfl ?_ | refine s1 ?_ | refine sA ?_ | refine pS (T := tab) ?_ | refine LK.gr (Gr.bslV (T := tab) rfl rfl rfl rfl) ?_ | refine Ask.of (Gr.bslV (T := tab) rfl rfl rfl rfl) ?_ | refine CK.any false Qk ?_ | refine CK.any true Qk ?_ | fail))
    rename_i A2 q2 cp2
    (conv => whnf); (refine Nxt.of ((k + 1, A2, q2, cp2)) [6, 7, 9, 10, 11, 12, 13, 14, 15, 16, 17, 18] Qr Qr Qr ?_ ?_ Qy ?_ <;> (try dsimp only) <;> (try omega))
    rw [show (List.replicate (k + 1) (-1)).map I = (List.replicate k (-1)).map I ++ [I (-1)] by rw [List.replicate_succ', List.map_append]; rfl]
    exact Qs
  obtain rfl : k = p.duties.length := by omega
  repeat' ((conv => whnf) <;> (first | refine Must.mk (fun h => h) ?_ | refine Must.mk (fun _ => rfl) ?_ | refine Must.mk Qw ?_ | refine MW.ok Qw ?_ | intro _ | exact Fin.pure rfl | refine Br.tt ?_ | refine Br.ff ?_ | (refine Br.mk (fun h => ?_) (fun h => ?_) <;> (try simp only [sh] at h) <;> (try first | (exfalso; omega) | exact absurd trivial h | (exfalso; simp at h; done))) | refine Ix.at ‹_› Qw ?_ | refine Ix.mapN Qw ?_ | refine Ix.mapN1 Qw ?_ | refine Ix.map Qw ?_ | refine Ix.at Qi Qw ?_ | refine lB (T := tab) ?_ | refine lBA (T := tab) ?_ | refine rA (T := tab) ?_ | refine r1 (T := tab) ?_ | refine LK.askW rfl ?_ | refine s1 ?_ | refine sA ?_ | refine pS (T := tab) ?_ | refine LK.gr (Gr.bslV (T := tab) rfl rfl rfl rfl) ?_ | refine Ask.of (Gr.bslV (T := tab) rfl rfl rfl rfl) ?_ | refine CK.any false Qk ?_ | refine CK.any true Qk ?_ | fail))
  (conv => whnf); refine CK.loopK [4, 5, 8, 19, 20, 21, 22, 23, 24, 25, 26, 27, 28, 29, 30, 31, 32, 33, 34, 35, 36, 37, 38, 39, 40, 41, 42, 43, 44, 45, 46, 47, 48, 49, 50, 51, 52] (σ := Nat × List Int) (fun s => s.1 ≤ l.length ∧ s.2.length = p.duties.length ∧ denC p l = denL (l.drop s.1) s.2) (fun ⟨k, _⟩ => [(8, I k)]) (fun ⟨_, r⟩ => [.row (.slice A q cp) 3 1 0 false (r.map I)]) _ (fun s => l.length - s.1) (0, List.replicate p.duties.length (-1)) ⟨Nat.zero_le _, by simp, rfl⟩ Qy (List.Sublist.refl _) ?_
  conv => whnf
  rintro ⟨k, r⟩ ⟨j1, j2, j3⟩
  simp only at j1 j2 j3
  have hlr : (r.map I).length = r.length := by simp
  by_cases hk : k < l.length
  · have hpk := properB_iff.1 (List.all_eq_true.1 hp _ (gAt hk))
    rw [denL_at hk] at j3
    have hset := set_Ir r (l.getD k default).du.toNat (l.getD k default).wk
    repeat' ((conv => whnf) <;> (first | refine LK.stRM (a := (l.getD k default).du.toNat) (j := 0) 0 rfl rfl rfl rfl rfl (Nat.zero_le _) (by omega) rfl rfl ?_ | refine Ask.idxR (T := tab) 0 rfl rfl rfl rfl (fun _ => by omega) ?_ | refine Must.mk (fun h => h) ?_ | refine Must.mk (fun _ => rfl) ?_ | refine Must.mk Qw ?_ | refine MW.ok Qw ?_ | intro _ | exact Fin.pure rfl | refine Br.tt ?_ | refine Br.ff ?_ | (refine Br.mk (fun h => ?_) (fun h => ?_) <;> (try simp only [sh] at h) <;> (try first | (exfalso; omega) | exact absurd trivial h | (exfalso; simp at h; done))) | refine Ix.at ‹_› Qw ?_ | refine Ix.mapN Qw ?_ | refine Ix.mapN1 Qw ?_ | refine Ix.map Qw ?_ | refine Ix.at Qi Qw ?_ | refine lB (T := tab) ?_ | refine lBA (T := tab) ?_ | refine rA (T := tab) ?_ | refine r1 (T := tab) ?_ | refine lM (T := tab) ?_ | refine lM0 (T := tab) ?_ | refine lMA (T := tab) ?_ | refine sM ?_ | refine LK.askW rfl ?_ | refine s1 ?_ | refine sA ?_ | refine Kx.nil ?_ | refine Kx.stp (T := tab) rfl rfl Qs ?_ | refine kA (T := tab) ?_ | (refine Kx.frzR 0 rfl ?_ <;> refine kF (T := tab) ?_) | refine kP (T := tab) ?_ | refine k1 (T := tab) ?_ | refine kB (T := tab) ?_ | refine kL (T := tab) ?_ | refine CK.any false Qk ?_ | fail))
    · conv => whnf
      rw [if_neg (by simp only [Bool.and_eq_true, Bool.not_eq_true', decide_eq_true_eq]; exact fun h2 => h.elim (fun h => by rw [h2.1] at h; cases h) (fun h => by omega))] at j3
      rw [j3]
      exact Fin.seeP (Sb.tup (.cons Sb.nil (.cons (.refl _) .nil)))
    · rw [if_pos (by simp only [Bool.and_eq_true, Bool.not_eq_true', decide_eq_true_eq]; exact ⟨h.1, by omega⟩)] at j3
      (conv => whnf); (refine Nxt.of ((k + 1, r.set (l.getD k default).du.toNat (l.getD k default).wk)) [4, 5, 8, 19, 20, 21, 22, 23, 24, 25, 26, 27, 28, 29, 30, 31, 32, 33, 34, 35, 36, 37, 38, 39, 40, 41, 42, 43, 44, 45, 46, 47, 48, 49, 50, 51, 52] Qr Qr Qr ?_ ?_ Qy ?_ <;> (try dsimp only) <;> (try omega))
      · exact ⟨hk, by rw [List.length_set]; exact j2, j3⟩
      · rw [← hset]
        exact Qs
  · rw [List.drop_eq_nil_of_le (by omega), denL] at j3
    repeat' ((conv => whnf) <;> (first | refine Must.mk (fun h => h) ?_ | refine Must.mk (fun _ => rfl) ?_ | refine Must.mk Qw ?_ | refine MW.ok Qw ?_ | intro _ | exact Fin.pure rfl | refine Br.tt ?_ | refine Br.ff ?_ | (refine Br.mk (fun h => ?_) (fun h => ?_) <;> (try simp only [sh] at h) <;> (try first | (exfalso; omega) | exact absurd trivial h | (exfalso; simp at h; done))) | refine Ix.at ‹_› Qw ?_ | refine Ix.mapN Qw ?_ | refine Ix.mapN1 Qw ?_ | refine Ix.map Qw ?_ | refine Ix.at Qi Qw ?_ | refine lB (T := tab) ?_ | refine lBA (T := tab) ?_ | refine rA (T := tab) ?_ | refine r1 (T := tab) ?_ | refine lM (T := tab) ?_ | refine lM0 (T := tab) ?_ | refine lMA (T := tab) ?_ | refine sM ?_ | refine LK.askW rfl ?_ | refine s1 ?_ | refine sA ?_ | refine CK.any false Qk ?_ | fail))
    conv => whnf
    refine Fin.frzR 0 rfl ?_
    rw [j3]
    refine Fin.see (Sb.tup (.cons (Sb.row 0 rfl) (.cons (.refl _) .nil))) ?_
    refine Fin.pure ?_
    rw [hll]
    simp
theorem denC_ro {p : Pl} {l : List Lt} {r : List Int} (hp : l.all (properB p) = true) (h : denC p l = some r) : isRo p r = true := by
  unfold denC at h
  refine isRo_iff.2 ⟨by rw [denL_len h, List.length_replicate], ?_⟩
  refine denL_bd h (fun x hx => ?_) fun w hw => ?_
  · have := properB_iff.1 (List.all_eq_true.1 hp x hx); omega
  · rw [List.eq_of_mem_replicate hw]; omega
def badC (p : Pl) (cl : List Lt) : Bool := match denC p cl with
  | some ro => decide (0 < cl.length) && violB p ro
  | none => false
set_option maxRecDepth 4000 in
set_option maxHeartbeats 4000000 in
theorem bBad_ok (p : Pl) (l : List Lt) (hs : Small p) (hv : validP p = true) (hl : l.length ≤ 100000) (hp : l.all (properB p) = true) : FnA Tryz.prog 47 [.agg (pcs p), .sl 3 (l.map ltav)] (B (badC p l)) := by
  have c1 := bPartial_ok p l hs.du hl hp
  unfold badC
  cases hd : denC p l with
  | none =>
    rw [hd] at c1
    refine fn_run (T := tab) Tryz.func47 rfl Tryz.ntmps47 rfl Tryz.results47 (fun _ => ?_)
    repeat' ((conv => whnf) <;> (first | refine Must.mk (fun h => h) ?_ | refine Must.mk (fun _ => rfl) ?_ | refine Must.mk Qw ?_ | refine MW.ok Qw ?_ | intro _ | exact Fin.pure rfl | refine Fin.pure ?_ | refine Br.tt ?_ | refine Br.ff ?_ | (refine Br.mk (fun h => ?_) (fun h => ?_) <;> (try simp only [sh] at h) <;> (try first | (exfalso; omega) | exact absurd trivial h | (exfalso; simp at h; done))) | refine Ix.at ‹_› Qw ?_ | refine Ix.mapN Qw ?_ | refine Ix.mapN1 Qw ?_ | refine Ix.map Qw ?_ | refine Ix.at Qi Qw ?_ | refine LK.callA ent73 (c1) rfl rfl (SbL.refl _) ?_ | refine Ask.callA ent73 (fun h => c1) rfl rfl (SbL.refl _) ?_ | refine LK.callA ent73 (c1) rfl rfl Ql ?_ | refine Ask.callA ent73 (fun h => c1) rfl rfl Ql ?_ | refine lB (T := tab) ?_ | refine lBA (T := tab) ?_ | refine rA (T := tab) ?_ | refine r1 (T := tab) ?_ | refine LK.askW rfl ?_ | refine s1 ?_ | refine sA ?_ | refine CK.any false Qk ?_ | fail))
  | some ro =>
    rw [hd] at c1
    dsimp only
    have hri := denC_ro hp hd
    have hrl := (isRo_iff.1 hri).1
    have hsd := hs.du
    have c2 := v8Bad_ok p ro hs (by omega)
    have hok : okRo p ro = true := by unfold okRo; rw [hv, hri]; rfl
    rw [if_pos hok, if_pos hok] at c2
    have hb := badP_le hv hrl
    have hbl : ((badP p ro).map viav).length = (badP p ro).length := by simp
    have hvi : violB p ro = decide (0 < (badP p ro).length) := by
      rw [Bool.eq_iff_iff, violB_iff, decide_eq_true_eq, List.length_pos_iff]
    refine fn_run (T := tab) Tryz.func47 rfl Tryz.ntmps47 rfl Tryz.results47 (fun _ => ?_)
    repeat' ((conv => whnf) <;> (first | refine Must.mk (fun h => h) ?_ | refine Must.mk (fun _ => rfl) ?_ | refine Must.mk Qw ?_ | refine MW.ok Qw ?_ | intro _ | exact Fin.pure rfl | refine Br.tt ?_ | refine Br.ff ?_ | (refine Br.mk (fun h => ?_) (fun h => ?_) <;> (try simp only [sh] at h) <;> (try first | (exfalso; omega) | exact absurd trivial h | (exfalso; simp at h; done))) | refine Ix.at ‹_› Qw ?_ | refine Ix.mapN Qw ?_ | refine Ix.mapN1 Qw ?_ | refine Ix.map Qw ?_ | refine Ix.at Qi Qw ?_ | refine LK.callA ent73 (c1) rfl rfl (SbL.refl _) ?_ | refine Ask.callA ent73 (fun h => c1) rfl rfl (SbL.refl _) ?_ | refine LK.callA ent73 (c1) rfl rfl Ql ?_ | refine Ask.callA ent73 (fun h => c1) rfl rfl Ql ?_ | refine LK.callA ent74 (c2) rfl rfl (SbL.refl _) ?_ | refine Ask.callA ent74 (fun h => c2) rfl rfl (SbL.refl _) ?_ | refine LK.callA ent74 (c2) rfl rfl Ql ?_ | refine Ask.callA ent74 (fun h => c2) rfl rfl Ql ?_ | refine lB (T := tab) ?_ | refine lBA (T := tab) ?_ | refine rA (T := tab) ?_ | refine r1 (T := tab) ?_ | refine LK.askW rfl ?_ | refine s1 ?_ | refine sA ?_ | refine CK.any false Qk ?_ | fail))
    all_goals (conv => whnf)
    all_goals (refine Fin.pure (congrArg B ?_))
    all_goals grind
theorem cheap_min (l : List Wk) (w : Wk) (h : l ≠ []) : cheapL (l ++ [w]) = min (cheapL l) w.wage := by
  rw [cheap_snoc]
  have : l.length ≠ 0 := fun e => h (List.eq_nil_of_length_eq_zero e)
  by_cases hw : w.wage < cheapL l
  · rw [if_pos (.inr hw)]; omega
  · rw [if_neg (by omega)]; omega
theorem bCheap_ok (p : Pl) (hw : p.workers.length ≤ 1000) (h0 : 0 < p.workers.length) : FnA Tryz.prog 76 [.agg (pcs p)] (I (cheapL p.workers)) := by
  have hlw : (p.workers.map wkav).length = p.workers.length := by simp
  refine fn_run (T := tab) Tryz.func76 rfl Tryz.ntmps76 rfl Tryz.results76 (fun _ => ?_)
  repeat' ((conv => whnf) <;> (first | refine Must.mk (fun h => h) ?_ | refine Must.mk (fun _ => rfl) ?_ | refine Must.mk Qw ?_ | refine MW.ok Qw ?_ | intro _ | exact Fin.pure rfl | refine Br.tt ?_ | refine Br.ff ?_ | (refine Br.mk (fun h => ?_) (fun h => ?_) <;> (try simp only [sh] at h) <;> (try first | (exfalso; omega) | exact absurd trivial h | (exfalso; simp at h; done))) | refine Ix.at ‹_› Qw ?_ | refine Ix.mapN Qw ?_ | refine Ix.mapN1 Qw ?_ | refine Ix.map Qw ?_ | refine Ix.at Qi Qw ?_ | refine lB (T := tab) ?_ | refine lBA (T := tab) ?_ | refine rA (T := tab) ?_ | refine r1 (T := tab) ?_ | refine LK.askW rfl ?_ | refine s1 ?_ | refine sA ?_ | refine CK.any false Qk ?_ | fail))
  (conv => whnf); refine CK.loop [3, 4, 10, 11, 12, 13, 14, 15, 16, 17, 18, 19, 20, 21, 22, 23, 24] (σ := Nat × Int) (fun s => 1 ≤ s.1 ∧ s.1 ≤ p.workers.length ∧ s.2 = cheapL (p.workers.take s.1)) (fun ⟨k, n⟩ => [(4, I k), (3, I n)]) (fun _ => _) (fun s => p.workers.length - s.1) (1, (p.workers.getD 0 default).wage) ⟨Nat.le_refl _, h0, by
    dsimp only
    rw [take_snoc h0]
    simp [cheapL]⟩ Qy (List.Sublist.refl _) ?_
  conv => whnf
  rintro ⟨k, n⟩ ⟨i1, i2, i3⟩
  simp only at i1 i2 i3
  by_cases hk : k < p.workers.length
  · have hm := cheap_min (p.workers.take k) (p.workers.getD k default) (fun e => by have := congrArg List.length e; rw [List.length_take, List.length_nil] at this; omega)
    rw [← take_snoc hk] at hm
    repeat' ((conv => whnf) <;> (first | refine Must.mk (fun h => h) ?_ | refine Must.mk (fun _ => rfl) ?_ | refine Must.mk Qw ?_ | refine MW.ok Qw ?_ | intro _ | exact Fin.pure rfl | refine Br.tt ?_ | refine Br.ff ?_ | (refine Br.mk (fun h => ?_) (fun h => ?_) <;> (try simp only [sh] at h) <;> (try first | (exfalso; omega) | exact absurd trivial h | (exfalso; simp at h; done))) | refine Ix.at ‹_› Qw ?_ | refine Ix.mapN Qw ?_ | refine Ix.mapN1 Qw ?_ | refine Ix.map Qw ?_ | refine Ix.at Qi Qw ?_ | refine lB (T := tab) ?_ | refine lBA (T := tab) ?_ | refine rA (T := tab) ?_ | refine r1 (T := tab) ?_ | refine LK.askW rfl ?_ | refine s1 ?_ | refine sA ?_ | refine CK.any false Qk ?_ | fail))
    (conv => whnf); (refine Nxt.of ((k + 1, min n (p.workers.getD k default).wage)) [3, 4, 10, 11, 12, 13, 14, 15, 16, 17, 18, 19, 20, 21, 22, 23, 24] Qr Qr Qr ?_ ?_ Qy Qs <;> (try dsimp only) <;> (try omega))
  · rw [List.take_of_length_le (by omega)] at i3
    repeat' ((conv => whnf) <;> (first | refine Must.mk (fun h => h) ?_ | refine Must.mk (fun _ => rfl) ?_ | refine Must.mk Qw ?_ | refine MW.ok Qw ?_ | intro _ | exact Fin.pure rfl | refine Br.tt ?_ | refine Br.ff ?_ | (refine Br.mk (fun h => ?_) (fun h => ?_) <;> (try simp only [sh] at h) <;> (try first | (exfalso; omega) | exact absurd trivial h | (exfalso; simp at h; done))) | refine Ix.at ‹_› Qw ?_ | refine Ix.mapN Qw ?_ | refine Ix.mapN1 Qw ?_ | refine Ix.map Qw ?_ | refine Ix.at Qi Qw ?_ | refine lB (T := tab) ?_ | refine lBA (T := tab) ?_ | refine rA (T := tab) ?_ | refine r1 (T := tab) ?_ | refine LK.askW rfl ?_ | refine s1 ?_ | refine sA ?_ | refine CK.any false Qk ?_ | fail))
    conv => whnf
    exact Fin.pure (congrArg I i3)
def costC (p : Pl) (b : Int) (cl : List Lt) : Bool := match denC p cl with
  | some ro => decide (0 < cl.length) && decide (b ≤ fullP p ro p.duties)
  | none => false
set_option maxRecDepth 4000 in
set_option maxHeartbeats 4000000 in
theorem bCost_ok (p : Pl) (b : Int) (l : List Lt) (hs : Small p) (hv : validP p = true) (hl : l.length ≤ 100000) (hp : l.all (properB p) = true) : FnA Tryz.prog 48 [.agg (pcs p), I b, .sl 3 (l.map ltav)] (B (costC p b l)) := by
  have c1 := bPartial_ok p l hs.du hl hp
  unfold costC
  cases hd : denC p l with
  | none =>
    rw [hd] at c1
    refine fn_run (T := tab) Tryz.func48 rfl Tryz.ntmps48 rfl Tryz.results48 (fun _ => ?_)
    repeat' ((conv => whnf) <;> (first | refine Must.mk (fun h => h) ?_ | refine Must.mk (fun _ => rfl) ?_ | refine Must.mk Qw ?_ | refine MW.ok Qw ?_ | intro _ | exact Fin.pure rfl | refine Fin.pure ?_ | refine Br.tt ?_ | refine Br.ff ?_ | (refine Br.mk (fun h => ?_) (fun h => ?_) <;> (try simp only [sh] at h) <;> (try first | (exfalso; omega) | exact absurd trivial h | (exfalso; simp at h; done))) | refine Ix.at ‹_› Qw ?_ | refine Ix.mapN Qw ?_ | refine Ix.mapN1 Qw ?_ | refine Ix.map Qw ?_ | refine Ix.at Qi Qw ?_ | refine LK.callA ent73 (c1) rfl rfl (SbL.refl _) ?_ | refine Ask.callA ent73 (fun h => c1) rfl rfl (SbL.refl _) ?_ | refine LK.callA ent73 (c1) rfl rfl Ql ?_ | refine Ask.callA ent73 (fun h => c1) rfl rfl Ql ?_ | refine lB (T := tab) ?_ | refine lBA (T := tab) ?_ | refine rA (T := tab) ?_ | refine r1 (T := tab) ?_ | refine LK.askW rfl ?_ | refine s1 ?_ | refine sA ?_ | refine CK.any false Qk ?_ | fail))
  | some ro =>
    rw [hd] at c1
    dsimp only
    have hri := denC_ro hp hd
    have hrl := (isRo_iff.1 hri).1
    have hro := (isRo_iff.1 hri).2
    have hsd := hs.du
    have c2 := v8Cost_ok p ro hs (by omega)
    have hok : okRo p ro = true := by unfold okRo; rw [hv, hri]; rfl
    rw [if_pos hok, if_pos hok] at c2
    have hlr : (ro.map I).length = ro.length := by simp
    have hld : (p.duties.map duav).length = p.duties.length := by simp
    have hV := validP_iff.1 hv
    by_cases hl0 : 0 < l.length
    · have hw0 : 0 < p.workers.length := by have := properB_iff.1 (List.all_eq_true.1 hp _ (gAt hl0)); omega
      have c3 := bCheap_ok p hs.wk hw0
      have hcb := cheapL_bd (wage_bd hv)
      simp only [Option.isSome_some, Bool.true_and, Option.getD_some] at c1
      rw [decide_eq_true hl0] at c1
      have key : ∀ n, n ≤ ro.length → 0 ≤ costP p (ro.take n) (p.duties.take n) ∧ costP p (ro.take n) (p.duties.take n) ≤ fullP p (ro.take n) (p.duties.take n) ∧ fullP p (ro.take n) (p.duties.take n) ≤ 1440000000 * n := by
        intro n
        induction n with
        | zero => intro _; simp [fullP, costP]
        | succ n ih =>
          intro hn
          have i1 := ih (by omega)
          rw [take_snoc (l := ro) (by omega), take_snoc (l := p.duties) (by omega), fullP_snoc p _ _ (by simp; omega), costP_snoc p _ _ (by simp; omega)]
          have hd := List.all_eq_true.1 hV.2.2.2.1 _ (gAt (show n < p.duties.length by omega))
          have hw := hro _ (gAt (show n < ro.length by omega))
          have t1 := termC_bd hv hw.2 hd
          have t2 := termF_bd hv hw.2 hd
          have : termC p (ro.getD n default) (p.duties.getD n default) ≤ termF p (ro.getD n default) (p.duties.getD n default) := by
            by_cases h0 : 0 ≤ ro.getD n default
            · rw [termC, termF, if_pos h0, if_pos h0]
              exact Int.le_refl _
            · rw [termF, if_neg h0] at t2
              rw [termC, termF, if_neg h0, if_neg h0]
              exact t2.1
          omega
      have kall := key ro.length (Nat.le_refl _)
      rw [List.take_of_length_le (Nat.le_refl _), List.take_of_length_le (by omega)] at kall
      rw [decide_eq_true hl0, Bool.true_and]
      refine fn_run (T := tab) Tryz.func48 rfl Tryz.ntmps48 rfl Tryz.results48 (fun _ => ?_)
      repeat' ((conv => whnf) <;> (first | refine Must.mk (fun h => h) ?_ | refine Must.mk (fun _ => rfl) ?_ | refine Must.mk Qw ?_ | refine MW.ok Qw ?_ | intro _ | exact Fin.pure rfl | refine Br.tt ?_ | refine Br.ff ?_ | (refine Br.mk (fun h => ?_) (fun h => ?_) <;> (try simp only [sh] at h) <;> (try first | (exfalso; omega) | exact absurd trivial h | (exfalso; simp at h; done))) | refine Ix.at ‹_› Qw ?_ | refine Ix.mapN Qw ?_ | refine Ix.mapN1 Qw ?_ | refine Ix.map Qw ?_ | refine Ix.at Qi Qw ?_ | refine LK.callA ent73 (c1) rfl rfl (SbL.refl _) ?_ | refine Ask.callA ent73 (fun h => c1) rfl rfl (SbL.refl _) ?_ | refine LK.callA ent73 (c1) rfl rfl Ql ?_ | refine Ask.callA ent73 (fun h => c1) rfl rfl Ql ?_ | refine LK.callA ent75 (c2) rfl rfl (SbL.refl _) ?_ | refine Ask.callA ent75 (fun h => c2) rfl rfl (SbL.refl _) ?_ | refine LK.callA ent75 (c2) rfl rfl Ql ?_ | refine Ask.callA ent75 (fun h => c2) rfl rfl Ql ?_ | refine lB (T := tab) ?_ | refine lBA (T := tab) ?_ | refine rA (T := tab) ?_ | refine r1 (T := tab) ?_ | refine LK.askW rfl ?_ | refine s1 ?_ | refine sA ?_ | refine CK.any false Qk ?_ | fail))
      (conv => whnf); refine CK.loop [9, 11, 26, 27, 28, 29, 30, 31, 32, 33, 34, 35, 36, 37, 38, 39, 40, 41, 42, 43, 44, 45, 46, 47, 48, 49, 50, 51, 52, 53, 54] (σ := Nat × Int) (fun s => s.1 ≤ ro.length ∧ s.2 = costP p ro p.duties + (fullP p (ro.take s.1) (p.duties.take s.1) - costP p (ro.take s.1) (p.duties.take s.1))) (fun ⟨k, n⟩ => [(11, I k), (9, I n)]) (fun _ => _) (fun s => ro.length - s.1) (0, costP p ro p.duties) ⟨Nat.zero_le _, by simp [fullP, costP]⟩ Qy (List.Sublist.refl _) ?_
      conv => whnf
      rintro ⟨k, n⟩ ⟨i1, i2⟩
      simp only at i1 i2
      have kk := key k i1
      by_cases hk : k < ro.length
      · have hdk := List.all_eq_true.1 hV.2.2.2.1 _ (gAt (show k < p.duties.length by omega))
        have hdb := duB_bd (dutyOk.b hdk)
        have hwk := hro _ (gAt hk)
        have tf := termF_bd hv hwk.2 hdk
        have s1 := fullP_snoc p (ro.getD k default) (p.duties.getD k default) (a := ro.take k) (b := p.duties.take k) (by simp; omega)
        have s2 := costP_snoc p (ro.getD k default) (p.duties.getD k default) (a := ro.take k) (b := p.duties.take k) (by simp; omega)
        rw [← take_snoc hk, ← take_snoc (show k < p.duties.length by omega)] at s1 s2
        by_cases h0 : 0 ≤ ro.getD k default
        · rw [termF, if_pos h0] at s1
          rw [termC, if_pos h0] at s2
          repeat' ((conv => whnf) <;> (first | (refine Nxt.of ((k + 1, n)) [9, 11, 26, 27, 28, 29, 30, 31, 32, 33, 34, 35, 36, 37, 38, 39, 40, 41, 42, 43, 44, 45, 46, 47, 48, 49, 50, 51, 52, 53, 54] Qr Qr Qr ?_ ?_ Qy Qs <;> (try dsimp only) <;> (try omega)) | refine Must.mk (fun h => h) ?_ | refine Must.mk (fun _ => rfl) ?_ | refine Must.mk Qw ?_ | refine MW.ok Qw ?_ | intro _ | exact Fin.pure rfl | refine Br.tt ?_ | refine Br.ff ?_ | (refine Br.mk (fun h => ?_) (fun h => ?_) <;> (try simp only [sh] at h) <;> (try first | (exfalso; omega) | exact absurd trivial h | (exfalso; simp at h; done))) | refine Ix.at ‹_› Qw ?_ | refine Ix.mapN Qw ?_ | refine Ix.mapN1 Qw ?_ | refine Ix.map Qw ?_ | refine Ix.at Qi Qw ?_ | refine lB (T := tab) ?_ | refine lBA (T := tab) ?_ | refine rA (T := tab) ?_ | refine r1 (T := tab) ?_ | refine LK.askW rfl ?_ | refine s1 ?_ | refine sA ?_ | refine CK.any false Qk ?_ | fail))
        · rw [termF, if_neg h0] at s1 tf
          rw [termC, if_neg h0] at s2
          repeat' ((conv => whnf) <;> (first | (refine Nxt.of ((k + 1, _)) [9, 11, 26, 27, 28, 29, 30, 31, 32, 33, 34, 35, 36, 37, 38, 39, 40, 41, 42, 43, 44, 45, 46, 47, 48, 49, 50, 51, 52, 53, 54] Qr Qr Qr ?_ ?_ Qy Qs <;> (try dsimp only) <;> (try omega)) | refine Must.mk (fun h => h) ?_ | refine Must.mk (fun _ => rfl) ?_ | refine Must.mk Qw ?_ | refine MW.ok Qw ?_ | intro _ | exact Fin.pure rfl | refine Br.tt ?_ | refine Br.ff ?_ | (refine Br.mk (fun h => ?_) (fun h => ?_) <;> (try simp only [sh] at h) <;> (try first | (exfalso; omega) | exact absurd trivial h | (exfalso; simp at h; done))) | refine Ix.at ‹_› Qw ?_ | refine Ix.mapN Qw ?_ | refine Ix.mapN1 Qw ?_ | refine Ix.map Qw ?_ | refine Ix.at Qi Qw ?_ | refine LK.callA ent76 (c3) rfl rfl (SbL.refl _) ?_ | refine Ask.callA ent76 (fun h => c3) rfl rfl (SbL.refl _) ?_ | refine LK.callA ent76 (c3) rfl rfl Ql ?_ | refine Ask.callA ent76 (fun h => c3) rfl rfl Ql ?_ | refine lB (T := tab) ?_ | refine lBA (T := tab) ?_ | refine rA (T := tab) ?_ | refine r1 (T := tab) ?_ | refine LK.askW rfl ?_ | refine s1 ?_ | refine sA ?_ | refine CK.any false Qk ?_ | fail))
      · rw [List.take_of_length_le (by omega), List.take_of_length_le (by omega)] at i2
        repeat' ((conv => whnf) <;> (first | refine Must.mk (fun h => h) ?_ | refine Must.mk (fun _ => rfl) ?_ | refine Must.mk Qw ?_ | refine MW.ok Qw ?_ | intro _ | exact Fin.pure rfl | refine Br.tt ?_ | refine Br.ff ?_ | (refine Br.mk (fun h => ?_) (fun h => ?_) <;> (try simp only [sh] at h) <;> (try first | (exfalso; omega) | exact absurd trivial h | (exfalso; simp at h; done))) | refine Ix.at ‹_› Qw ?_ | refine Ix.mapN Qw ?_ | refine Ix.mapN1 Qw ?_ | refine Ix.map Qw ?_ | refine Ix.at Qi Qw ?_ | refine lB (T := tab) ?_ | refine lBA (T := tab) ?_ | refine rA (T := tab) ?_ | refine r1 (T := tab) ?_ | refine LK.askW rfl ?_ | refine s1 ?_ | refine sA ?_ | refine CK.any false Qk ?_ | fail))
        conv => whnf
        refine Fin.pure (congrArg B ?_)
        rw [decide_eq_decide]
        omega
    · rw [decide_eq_false hl0] at c1 ⊢
      simp only [Option.isSome_some, Bool.and_false] at c1
      rw [Bool.false_and]
      refine fn_run (T := tab) Tryz.func48 rfl Tryz.ntmps48 rfl Tryz.results48 (fun _ => ?_)
      repeat' ((conv => whnf) <;> (first | refine Must.mk (fun h => h) ?_ | refine Must.mk (fun _ => rfl) ?_ | refine Must.mk Qw ?_ | refine MW.ok Qw ?_ | intro _ | exact Fin.pure rfl | refine Fin.pure ?_ | refine Br.tt ?_ | refine Br.ff ?_ | (refine Br.mk (fun h => ?_) (fun h => ?_) <;> (try simp only [sh] at h) <;> (try first | (exfalso; omega) | exact absurd trivial h | (exfalso; simp at h; done))) | refine Ix.at ‹_› Qw ?_ | refine Ix.mapN Qw ?_ | refine Ix.mapN1 Qw ?_ | refine Ix.map Qw ?_ | refine Ix.at Qi Qw ?_ | refine LK.callA ent73 (c1) rfl rfl (SbL.refl _) ?_ | refine Ask.callA ent73 (fun h => c1) rfl rfl (SbL.refl _) ?_ | refine LK.callA ent73 (c1) rfl rfl Ql ?_ | refine Ask.callA ent73 (fun h => c1) rfl rfl Ql ?_ | refine lB (T := tab) ?_ | refine lBA (T := tab) ?_ | refine rA (T := tab) ?_ | refine r1 (T := tab) ?_ | refine LK.askW rfl ?_ | refine s1 ?_ | refine sA ?_ | refine CK.any false Qk ?_ | fail))
theorem bIn_ok (l : List Lt) (x : Lt) (hl : l.length ≤ 100000) : FnA Tryz.prog 103 [.sl 3 (l.map ltav), ltav x] (B (l.contains x)) := by
  have hll : (l.map ltav).length = l.length := by simp
  refine fn_run (T := tab) Tryz.func103 rfl Tryz.ntmps103 rfl Tryz.results103 (fun _ => ?_)
  repeat' ((conv => whnf) <;> (first | refine Must.mk (fun h => h) ?_ | refine Must.mk (fun _ => rfl) ?_ | refine Must.mk Qw ?_ | refine MW.ok Qw ?_ | intro _ | exact Fin.pure rfl | refine Br.tt ?_ | refine Br.ff ?_ | (refine Br.mk (fun h => ?_) (fun h => ?_) <;> (try simp only [sh] at h) <;> (try first | (exfalso; omega) | exact absurd trivial h | (exfalso; simp at h; done))) | refine Ix.at ‹_› Qw ?_ | refine Ix.mapN Qw ?_ | refine Ix.mapN1 Qw ?_ | refine Ix.map Qw ?_ | refine Ix.at Qi Qw ?_ | refine lB (T := tab) ?_ | refine lBA (T := tab) ?_ | refine rA (T := tab) ?_ | refine r1 (T := tab) ?_ | refine LK.askW rfl ?_ | refine s1 ?_ | refine sA ?_ | refine CK.any false Qk ?_ | fail))
  (conv => whnf); refine CK.loop [4, 5, 6, 7, 8, 9, 10, 11, 12, 13, 14, 15, 16, 17] (σ := Nat) (fun k => k ≤ l.length ∧ x ∉ l.take k) (fun k => [(5, I k)]) (fun _ => _) (fun k => l.length - k) 0 ⟨Nat.zero_le _, by simp⟩ Qy (List.Sublist.refl _) ?_
  conv => whnf
  rintro k ⟨i1, i2⟩
  by_cases hk : k < l.length
  · have hq := eqLt (l.getD k default) x
    repeat' ((conv => whnf) <;> (first | refine Must.mk (fun h => h) ?_ | refine Must.mk (fun _ => rfl) ?_ | refine Must.mk Qw ?_ | refine MW.ok Qw ?_ | intro _ | exact Fin.pure rfl | refine Br.tt ?_ | refine Br.ff ?_ | (refine Br.mk (fun h => ?_) (fun h => ?_) <;> (try simp only [sh] at h) <;> (try first | (exfalso; omega) | exact absurd trivial h | (exfalso; simp at h; done))) | refine Ix.at ‹_› Qw ?_ | refine Ix.mapN Qw ?_ | refine Ix.mapN1 Qw ?_ | refine Ix.map Qw ?_ | refine Ix.at Qi Qw ?_ | refine Ask.of (Gr.eqlS rfl rfl rfl rfl (eqs45 _ _ _ _ _ _)) ?_ | refine Ask.of (Gr.neqS rfl rfl rfl rfl (eqs45 _ _ _ _ _ _)) ?_ | refine Ask.of (Gr.eqlS rfl rfl rfl rfl (eqs158 _ _ _ _)) ?_ | refine Ask.of (Gr.neqS rfl rfl rfl rfl (eqs158 _ _ _ _)) ?_ | refine Ask.of (Gr.eqlS rfl rfl rfl rfl (eqs28 _ _ _ _)) ?_ | refine Ask.of (Gr.neqS rfl rfl rfl rfl (eqs28 _ _ _ _)) ?_ | refine Ask.of (Gr.eqlS rfl rfl rfl rfl (eqs104 _ _ _ _ _ _ _ _)) ?_ | refine Ask.of (Gr.neqS rfl rfl rfl rfl (eqs104 _ _ _ _ _ _ _ _)) ?_ | refine lB (T := tab) ?_ | refine lBA (T := tab) ?_ | refine rA (T := tab) ?_ | refine r1 (T := tab) ?_ | refine LK.askW rfl ?_ | refine s1 ?_ | refine sA ?_ | refine CK.any false Qk ?_ | fail))
    · conv => whnf
      refine Fin.pure (congrArg B ?_)
      have : l.getD k default = x := by
        rw [← decide_eq_true_eq (p := l.getD k default = x), ← hq]
        simp only [Bool.and_eq_true, decide_eq_true_eq, beq_iff_eq, and_true]
        exact h
      rw [← this, eq_comm, List.contains_eq_mem, decide_eq_true_eq]
      exact gAt hk
    · (conv => whnf); (refine Nxt.of (k + 1) [4, 5, 6, 7, 8, 9, 10, 11, 12, 13, 14, 15, 16, 17] Qr Qr Qr ?_ ?_ Qy Qs <;> (try dsimp only) <;> (try omega))
      refine ⟨hk, ?_⟩
      rw [take_snoc hk, List.mem_append, List.mem_singleton]
      rintro (h2 | h2)
      · exact i2 h2
      · subst h2
        simp at h
  · repeat' ((conv => whnf) <;> (first | refine Must.mk (fun h => h) ?_ | refine Must.mk (fun _ => rfl) ?_ | refine Must.mk Qw ?_ | refine MW.ok Qw ?_ | intro _ | exact Fin.pure rfl | refine Br.tt ?_ | refine Br.ff ?_ | (refine Br.mk (fun h => ?_) (fun h => ?_) <;> (try simp only [sh] at h) <;> (try first | (exfalso; omega) | exact absurd trivial h | (exfalso; simp at h; done))) | refine Ix.at ‹_› Qw ?_ | refine Ix.mapN Qw ?_ | refine Ix.mapN1 Qw ?_ | refine Ix.map Qw ?_ | refine Ix.at Qi Qw ?_ | refine lB (T := tab) ?_ | refine lBA (T := tab) ?_ | refine rA (T := tab) ?_ | refine r1 (T := tab) ?_ | refine LK.askW rfl ?_ | refine s1 ?_ | refine sA ?_ | refine CK.any false Qk ?_ | fail))
    conv => whnf
    rw [List.take_of_length_le (by omega)] at i2
    refine Fin.pure (congrArg B ?_)
    simp [i2]
set_option maxHeartbeats 4000000 in
theorem bOpen_ok (cl held : List Lt) (hl : cl.length ≤ 100000) (hh : held.length ≤ 100000) : FnA Tryz.prog 78 [.sl 3 (cl.map ltav), .sl 3 (held.map ltav)] (.sl 3 ((openL held cl).map ltav)) := by
  have hll : (cl.map ltav).length = cl.length := by simp
  refine fn_run (T := tab) Tryz.func78 rfl Tryz.ntmps78 rfl Tryz.results78 (fun _ => ?_)
  repeat' ((conv => whnf) <;> (first | refine Must.mk (fun h => h) ?_ | refine Must.mk (fun _ => rfl) ?_ | refine Must.mk Qw ?_ | refine MW.ok Qw ?_ | intro _ | exact Fin.pure rfl | refine Br.tt ?_ | refine Br.ff ?_ | (refine Br.mk (fun h => ?_) (fun h => ?_) <;> (try simp only [sh] at h) <;> (try first | (exfalso; omega) | exact absurd trivial h | (exfalso; simp at h; done))) | refine Ix.at ‹_› Qw ?_ | refine Ix.mapN Qw ?_ | refine Ix.mapN1 Qw ?_ | refine Ix.map Qw ?_ | refine Ix.at Qi Qw ?_ | refine lB (T := tab) ?_ | refine lBA (T := tab) ?_ | refine rA (T := tab) ?_ | refine r1 (T := tab) ?_ | refine LK.askW rfl ?_ | refine s1 ?_ | refine sA ?_ | refine CK.any false Qk ?_ | fail))
  refine CK.nilrow 45 3 ?_
  (conv => whnf); refine CK.loopK [5, 6, 7, 8, 9, 10, 11, 12, 13, 14, 15, 16, 17, 18, 19, 20, 21, 22, 23, 24, 25, 26, 27] (σ := Nat × Option Addr × Nat × Nat) (fun s => s.1 ≤ cl.length) (fun ⟨k, A, q, cp⟩ => [(6, I k), (5, .v (.slice A q cp))]) (fun ⟨k, A, q, cp⟩ => [.row (.slice A q cp) 45 3 0 false ((openL held (cl.take k)).map ltav)]) _ (fun s => cl.length - s.1) (0, none, 0, 0) (Nat.zero_le _) Qy (List.Sublist.refl _) ?_
  conv => whnf
  rintro ⟨k, A, q, cp⟩ i1
  simp only at i1
  by_cases hk : k < cl.length
  · have c1 := bNeg_ok (cl.getD k default)
    have c2 := bIn_ok held (negL (cl.getD k default)) hh
    have hot := open_take (held := held) hk
    have hol := open_len held (cl.take k)
    rw [List.length_take, Nat.min_eq_left (by omega)] at hol
    repeat' ((conv => whnf) <;> (first | refine Must.mk (fun h => h) ?_ | refine Must.mk (fun _ => rfl) ?_ | refine Must.mk Qw ?_ | refine MW.ok Qw ?_ | intro _ | exact Fin.pure rfl | refine Br.tt ?_ | refine Br.ff ?_ | (refine Br.mk (fun h => ?_) (fun h => ?_) <;> (try simp only [sh] at h) <;> (try first | (exfalso; omega) | exact absurd trivial h | (exfalso; simp at h; done))) | refine Ix.at ‹_› Qw ?_ | refine Ix.mapN Qw ?_ | refine Ix.mapN1 Qw ?_ | refine Ix.map Qw ?_ | refine Ix.at Qi Qw ?_ | refine LK.callA ent77 (c1) rfl rfl (SbL.refl _) ?_ | refine Ask.callA ent77 (fun h => c1) rfl rfl (SbL.refl _) ?_ | refine LK.callA ent77 (c1) rfl rfl Ql ?_ | refine Ask.callA ent77 (fun h => c1) rfl rfl Ql ?_ | refine LK.callA ent103 (c2) rfl rfl (SbL.refl _) ?_ | refine Ask.callA ent103 (fun h => c2) rfl rfl (SbL.refl _) ?_ | refine LK.callA ent103 (c2) rfl rfl Ql ?_ | refine Ask.callA ent103 (fun h => c2) rfl rfl Ql ?_ | refine lB (T := tab) ?_ | refine lBA (T := tab) ?_ | refine rA (T := tab) ?_ | refine r1 (T := tab) ?_ | refine LK.askW rfl ?_ | refine s1 ?_ | refine sA ?_ | refine pS (T := tab) ?_ | refine LK.gr (Gr.bslV (T := tab) rfl rfl rfl rfl) ?_ | refine Ask.of (Gr.bslV (T := tab) rfl rfl rfl rfl) ?_ | refine CK.any false Qk ?_ | refine CK.any true Qk ?_ | fail))
    · rename_i A2 q2 cp2
      rw [if_neg (by simp_all)] at hot
      (conv => whnf); (refine Nxt.of ((k + 1, A2, q2, cp2)) [5, 6, 7, 8, 9, 10, 11, 12, 13, 14, 15, 16, 17, 18, 19, 20, 21, 22, 23, 24, 25, 26, 27] Qr Qr Qr ?_ ?_ Qy ?_ <;> (try dsimp only) <;> (try omega))
      rw [hot, List.map_append]
      exact Qs
    · rw [if_pos (by simp_all), List.append_nil] at hot
      (conv => whnf); (refine Nxt.of ((k + 1, A, q, cp)) [5, 6, 7, 8, 9, 10, 11, 12, 13, 14, 15, 16, 17, 18, 19, 20, 21, 22, 23, 24, 25, 26, 27] Qr Qr Qr ?_ ?_ Qy ?_ <;> (try dsimp only) <;> (try omega))
      rw [hot]
      exact Qs
  · have ef : cl.take k = cl := List.take_of_length_le (by omega)
    dsimp only
    rw [ef]
    repeat' ((conv => whnf) <;> (first | refine Must.mk (fun h => h) ?_ | refine Must.mk (fun _ => rfl) ?_ | refine Must.mk Qw ?_ | refine MW.ok Qw ?_ | intro _ | exact Fin.pure rfl | refine Br.tt ?_ | refine Br.ff ?_ | (refine Br.mk (fun h => ?_) (fun h => ?_) <;> (try simp only [sh] at h) <;> (try first | (exfalso; omega) | exact absurd trivial h | (exfalso; simp at h; done))) | refine Ix.at ‹_› Qw ?_ | refine Ix.mapN Qw ?_ | refine Ix.mapN1 Qw ?_ | refine Ix.map Qw ?_ | refine Ix.at Qi Qw ?_ | refine lB (T := tab) ?_ | refine lBA (T := tab) ?_ | refine rA (T := tab) ?_ | refine r1 (T := tab) ?_ | refine LK.askW rfl ?_ | refine s1 ?_ | refine sA ?_ | refine pS (T := tab) ?_ | refine LK.gr (Gr.bslV (T := tab) rfl rfl rfl rfl) ?_ | refine Ask.of (Gr.bslV (T := tab) rfl rfl rfl rfl) ?_ | refine CK.any false Qk ?_ | refine CK.any true Qk ?_ | fail))
    conv => whnf
    refine Fin.frzR 0 rfl ?_
    exact Fin.seeP (Sb.row 0 rfl)
theorem bEqual_ok (l : List Lt) (hl : l.length ≤ 100000) (h0 : 0 < l.length) : FnA Tryz.prog 79 [.sl 3 (l.map ltav)] (B (sameL l)) := by
  have hll : (l.map ltav).length = l.length := by simp
  refine fn_run (T := tab) Tryz.func79 rfl Tryz.ntmps79 rfl Tryz.results79 (fun _ => ?_)
  repeat' ((conv => whnf) <;> (first | refine Must.mk (fun h => h) ?_ | refine Must.mk (fun _ => rfl) ?_ | refine Must.mk Qw ?_ | refine MW.ok Qw ?_ | intro _ | exact Fin.pure rfl | refine Br.tt ?_ | refine Br.ff ?_ | (refine Br.mk (fun h => ?_) (fun h => ?_) <;> (try simp only [sh] at h) <;> (try first | (exfalso; omega) | exact absurd trivial h | (exfalso; simp at h; done))) | refine Ix.at ‹_› Qw ?_ | refine Ix.mapN Qw ?_ | refine Ix.mapN1 Qw ?_ | refine Ix.map Qw ?_ | refine Ix.at Qi Qw ?_ | refine lB (T := tab) ?_ | refine lBA (T := tab) ?_ | refine rA (T := tab) ?_ | refine r1 (T := tab) ?_ | refine LK.askW rfl ?_ | refine s1 ?_ | refine sA ?_ | refine CK.any false Qk ?_ | fail))
  (conv => whnf); refine CK.loop [2, 3, 4, 5, 6, 7, 8, 9, 10, 11, 12, 13, 14, 15, 16, 17] (σ := Nat) (fun k => 1 ≤ k ∧ k ≤ l.length ∧ ((l.take k).all fun x => decide (x = l.getD 0 default)) = true) (fun k => [(3, I k)]) (fun _ => _) (fun k => l.length - k) 1 ⟨Nat.le_refl _, h0, by rw [take_snoc h0]; simp⟩ Qy (List.Sublist.refl _) ?_
  conv => whnf
  rintro k ⟨i0, i1, i2⟩
  by_cases hk : k < l.length
  · have hq := eqLt (l.getD k default) (l.getD 0 default)
    repeat' ((conv => whnf) <;> (first | refine Must.mk (fun h => h) ?_ | refine Must.mk (fun _ => rfl) ?_ | refine Must.mk Qw ?_ | refine MW.ok Qw ?_ | intro _ | exact Fin.pure rfl | refine Br.tt ?_ | refine Br.ff ?_ | (refine Br.mk (fun h => ?_) (fun h => ?_) <;> (try simp only [sh] at h) <;> (try first | (exfalso; omega) | exact absurd trivial h | (exfalso; simp at h; done))) | refine Ix.at ‹_› Qw ?_ | refine Ix.mapN Qw ?_ | refine Ix.mapN1 Qw ?_ | refine Ix.map Qw ?_ | refine Ix.at Qi Qw ?_ | refine Ask.of (Gr.eqlS rfl rfl rfl rfl (eqs45 _ _ _ _ _ _)) ?_ | refine Ask.of (Gr.neqS rfl rfl rfl rfl (eqs45 _ _ _ _ _ _)) ?_ | refine Ask.of (Gr.eqlS rfl rfl rfl rfl (eqs158 _ _ _ _)) ?_ | refine Ask.of (Gr.neqS rfl rfl rfl rfl (eqs158 _ _ _ _)) ?_ | refine Ask.of (Gr.eqlS rfl rfl rfl rfl (eqs28 _ _ _ _)) ?_ | refine Ask.of (Gr.neqS rfl rfl rfl rfl (eqs28 _ _ _ _)) ?_ | refine Ask.of (Gr.eqlS rfl rfl rfl rfl (eqs104 _ _ _ _ _ _ _ _)) ?_ | refine Ask.of (Gr.neqS rfl rfl rfl rfl (eqs104 _ _ _ _ _ _ _ _)) ?_ | refine lB (T := tab) ?_ | refine lBA (T := tab) ?_ | refine rA (T := tab) ?_ | refine r1 (T := tab) ?_ | refine LK.askW rfl ?_ | refine s1 ?_ | refine sA ?_ | refine CK.any false Qk ?_ | fail))
    · conv => whnf
      refine Fin.pure (congrArg B (all_at hk ?_).symm)
      rw [← hq]
      grind
    · (conv => whnf); (refine Nxt.of (k + 1) [2, 3, 4, 5, 6, 7, 8, 9, 10, 11, 12, 13, 14, 15, 16, 17] Qr Qr Qr ?_ ?_ Qy Qs <;> (try dsimp only) <;> (try omega))
      refine ⟨by omega, hk, all_take i2 hk ?_⟩
      rw [← hq]
      grind
  · repeat' ((conv => whnf) <;> (first | refine Must.mk (fun h => h) ?_ | refine Must.mk (fun _ => rfl) ?_ | refine Must.mk Qw ?_ | refine MW.ok Qw ?_ | intro _ | exact Fin.pure rfl | refine Br.tt ?_ | refine Br.ff ?_ | (refine Br.mk (fun h => ?_) (fun h => ?_) <;> (try simp only [sh] at h) <;> (try first | (exfalso; omega) | exact absurd trivial h | (exfalso; simp at h; done))) | refine Ix.at ‹_› Qw ?_ | refine Ix.mapN Qw ?_ | refine Ix.mapN1 Qw ?_ | refine Ix.map Qw ?_ | refine Ix.at Qi Qw ?_ | refine lB (T := tab) ?_ | refine lBA (T := tab) ?_ | refine rA (T := tab) ?_ | refine r1 (T := tab) ?_ | refine LK.askW rfl ?_ | refine s1 ?_ | refine sA ?_ | refine CK.any false Qk ?_ | fail))
    conv => whnf
    rw [List.take_of_length_le (by omega)] at i2
    exact Fin.pure (congrArg B i2.symm)
theorem openL_cong {a b cl : List Lt} (h : ∀ x, x ∈ a ↔ x ∈ b) : openL a cl = openL b cl := by
  unfold openL
  congr 1
  funext l
  simp only [List.contains_eq_mem, h]
theorem unitF_cong {log : List Sg} : ∀ (ks : List Int) {a b : List Lt}, (∀ x, x ∈ a ↔ x ∈ b) → unitF log ks a = unitF log ks b
  | [], _, _, _ => rfl
  | k :: ks, a, b, h => by
    rw [unitF, unitF, openL_cong h, unitF_cong ks (a := _ :: a) (b := _ :: b) fun x => by rw [List.mem_cons, List.mem_cons, h]]
theorem Ix.mapNs {w : Bool} {i : Nat} {k : AV → Prop} {α : Type} [Inhabited α] {f : α → AV} {ys : List α} {s : α} (hs : ys.getD i default = s) (h : w = true → i < ys.length) (hk : k (f s)) : Ix w (ys.map f) (i : Int) k := .mapN h (by rw [hs]; exact hk)
set_option maxRecDepth 4000 in
set_option maxHeartbeats 16000000 in
theorem bUnit_ok (log : List Sg) (k : Nat) (hk : k < log.length) (_hll : log.length ≤ 100000) (hc : ∀ s ∈ log, s.cl.length ≤ 10000 ∧ s.frm.length ≤ 10000) : FnA Tryz.prog 49 [.sl 3 (log.map sgav), I k] (B (unitB log k (log.getD k default))) := by
  have hlg : (log.map sgav).length = log.length := by simp
  have hck := hc _ (gAt hk)
  generalize hs : log.getD k default = s at *
  have hlc : (s.cl.map ltav).length = s.cl.length := by simp
  have hlf : (s.frm.map I).length = s.frm.length := by simp
  refine fn_run (T := tab) Tryz.func49 rfl Tryz.ntmps49 rfl Tryz.results49 (fun _ => ?_)
  repeat' ((conv => whnf) <;> (first | refine Ix.mapNs hs Qw ?_ | refine Must.mk (fun h => h) ?_ | refine Must.mk (fun _ => rfl) ?_ | refine Must.mk Qw ?_ | refine MW.ok Qw ?_ | intro _ | exact Fin.pure rfl | refine Br.tt ?_ | refine Br.ff ?_ | (refine Br.mk (fun h => ?_) (fun h => ?_) <;> (try simp only [sh] at h) <;> (try first | (exfalso; omega) | exact absurd trivial h | (exfalso; simp at h; done))) | refine Ix.at ‹_› Qw ?_ | refine Ix.mapN Qw ?_ | refine Ix.mapN1 Qw ?_ | refine Ix.map Qw ?_ | refine Ix.at Qi Qw ?_ | refine lB (T := tab) ?_ | refine lBA (T := tab) ?_ | refine rA (T := tab) ?_ | refine r1 (T := tab) ?_ | refine LK.askW rfl ?_ | refine s1 ?_ | refine sA ?_ | refine CK.any false Qk ?_ | fail))
  refine CK.nilrow 45 3 ?_
  (conv => whnf); refine CK.loopK [5, 6, 11, 12, 13, 14, 15, 16, 17, 18, 19, 20, 21, 22, 23, 24, 25, 26, 27, 28, 29, 30, 31, 32] (σ := Nat × Option Addr × Nat × Nat) (fun q => q.1 ≤ s.cl.length) (fun ⟨j, A, q, cp⟩ => [(6, I j), (5, .v (.slice A q cp))]) (fun ⟨j, A, q, cp⟩ => [.row (.slice A q cp) 45 3 0 false (((s.cl.take j).map negL).map ltav)]) _ (fun q => s.cl.length - q.1) (0, none, 0, 0) (Nat.zero_le _) Qy (List.Sublist.refl _) ?_
  conv => whnf
  rintro ⟨j, A, q, cp⟩ i1
  simp only at i1
  by_cases hj : j < s.cl.length
  · have c1 := bNeg_ok (s.cl.getD j default)
    have hrl : (((s.cl.take j).map negL).map ltav).length = j := by simp; omega
    repeat' ((conv => whnf) <;> (first | refine Ix.mapNs hs Qw ?_ | refine Must.mk (fun h => h) ?_ | refine Must.mk (fun _ => rfl) ?_ | refine Must.mk Qw ?_ | refine MW.ok Qw ?_ | intro _ | exact Fin.pure rfl | refine Br.tt ?_ | refine Br.ff ?_ | (refine Br.mk (fun h => ?_) (fun h => ?_) <;> (try simp only [sh] at h) <;> (try first | (exfalso; omega) | exact absurd trivial h | (exfalso; simp at h; done))) | refine Ix.at ‹_› Qw ?_ | refine Ix.mapN Qw ?_ | refine Ix.mapN1 Qw ?_ | refine Ix.map Qw ?_ | refine Ix.at Qi Qw ?_ | refine LK.callA ent77 (c1) rfl rfl (SbL.refl _) ?_ | refine Ask.callA ent77 (fun h => c1) rfl rfl (SbL.refl _) ?_ | refine LK.callA ent77 (c1) rfl rfl Ql ?_ | refine Ask.callA ent77 (fun h => c1) rfl rfl Ql ?_ | refine lB (T := tab) ?_ | refine lBA (T := tab) ?_ | refine rA (T := tab) ?_ | refine r1 (T := tab) ?_ | refine LK.askW rfl ?_ | refine s1 ?_ | refine sA ?_ | refine pS (T := tab) ?_ | refine LK.gr (Gr.bslV (T := tab) rfl rfl rfl rfl) ?_ | refine Ask.of (Gr.bslV (T := tab) rfl rfl rfl rfl) ?_ | refine CK.any false Qk ?_ | refine CK.any true Qk ?_ | fail))
    rename_i A2 q2 cp2
    (conv => whnf); (refine Nxt.of ((j + 1, A2, q2, cp2)) [5, 6, 11, 12, 13, 14, 15, 16, 17, 18, 19, 20, 21, 22, 23, 24, 25, 26, 27, 28, 29, 30, 31, 32] Qr Qr Qr ?_ ?_ Qy ?_ <;> (try dsimp only) <;> (try omega))
    rw [take_snoc hj, List.map_append, List.map_append]
    exact Qs
  have ej : s.cl.take j = s.cl := List.take_of_length_le (by omega)
  dsimp only
  rw [ej]
  repeat' ((conv => whnf) <;> (first | refine Ix.mapNs hs Qw ?_ | refine Must.mk (fun h => h) ?_ | refine Must.mk (fun _ => rfl) ?_ | refine Must.mk Qw ?_ | refine MW.ok Qw ?_ | intro _ | exact Fin.pure rfl | refine Br.tt ?_ | refine Br.ff ?_ | (refine Br.mk (fun h => ?_) (fun h => ?_) <;> (try simp only [sh] at h) <;> (try first | (exfalso; omega) | exact absurd trivial h | (exfalso; simp at h; done))) | refine Ix.at ‹_› Qw ?_ | refine Ix.mapN Qw ?_ | refine Ix.mapN1 Qw ?_ | refine Ix.map Qw ?_ | refine Ix.at Qi Qw ?_ | refine lB (T := tab) ?_ | refine lBA (T := tab) ?_ | refine rA (T := tab) ?_ | refine r1 (T := tab) ?_ | refine LK.askW rfl ?_ | refine s1 ?_ | refine sA ?_ | refine pS (T := tab) ?_ | refine LK.gr (Gr.bslV (T := tab) rfl rfl rfl rfl) ?_ | refine Ask.of (Gr.bslV (T := tab) rfl rfl rfl rfl) ?_ | refine CK.any false Qk ?_ | refine CK.any true Qk ?_ | fail))
  (conv => whnf); refine CK.loopK [4, 8, 38, 39, 40, 41, 42, 43, 44, 45, 46, 47, 48, 49, 50, 51, 52, 53, 54, 55, 56] (σ := Nat) (fun q => q ≤ s.frm.length ∧ ((s.frm.take q).all fun j => decide (0 ≤ j) && decide (j < (k : Int))) = true) (fun i => [(8, I i)]) (fun _ => []) _ (fun q => s.frm.length - q) 0 ⟨Nat.zero_le _, rfl⟩ Qy (List.Sublist.refl _) ?_
  conv => whnf
  rintro i ⟨j1, j2⟩
  by_cases hi : i < s.frm.length
  · repeat' ((conv => whnf) <;> (first | refine Ix.mapNs hs Qw ?_ | refine Must.mk (fun h => h) ?_ | refine Must.mk (fun _ => rfl) ?_ | refine Must.mk Qw ?_ | refine MW.ok Qw ?_ | intro _ | exact Fin.pure rfl | refine Br.tt ?_ | refine Br.ff ?_ | (refine Br.mk (fun h => ?_) (fun h => ?_) <;> (try simp only [sh] at h) <;> (try first | (exfalso; omega) | exact absurd trivial h | (exfalso; simp at h; done))) | refine Ix.at ‹_› Qw ?_ | refine Ix.mapN Qw ?_ | refine Ix.mapN1 Qw ?_ | refine Ix.map Qw ?_ | refine Ix.at Qi Qw ?_ | refine lB (T := tab) ?_ | refine lBA (T := tab) ?_ | refine rA (T := tab) ?_ | refine r1 (T := tab) ?_ | refine LK.askW rfl ?_ | refine s1 ?_ | refine sA ?_ | refine pS (T := tab) ?_ | refine LK.gr (Gr.bslV (T := tab) rfl rfl rfl rfl) ?_ | refine Ask.of (Gr.bslV (T := tab) rfl rfl rfl rfl) ?_ | refine CK.any false Qk ?_ | refine CK.any true Qk ?_ | fail))
    · conv => whnf
      refine Fin.pure (congrArg B ?_)
      rw [unitB, all_at hi, Bool.false_and]
      simp only [Bool.and_eq_false_iff, decide_eq_false_iff_not]
      omega
    · (conv => whnf); (refine Nxt.of (i + 1) [4, 8, 38, 39, 40, 41, 42, 43, 44, 45, 46, 47, 48, 49, 50, 51, 52, 53, 54, 55, 56] Qr Qr Qr ?_ ?_ Qy ?_ <;> (try dsimp only) <;> (try omega))
      · refine ⟨hi, all_take j2 hi ?_⟩
        simp only [Bool.and_eq_true, decide_eq_true_eq]
        omega
      · exact Qs
  rw [List.take_of_length_le (by omega)] at j2
  have hS : unitB log k s = unitF log s.frm (s.cl.map negL) := by rw [unitB, j2, Bool.true_and]
  rw [hS]
  repeat' ((conv => whnf) <;> (first | refine Ix.mapNs hs Qw ?_ | refine Must.mk (fun h => h) ?_ | refine Must.mk (fun _ => rfl) ?_ | refine Must.mk Qw ?_ | refine MW.ok Qw ?_ | intro _ | exact Fin.pure rfl | refine Br.tt ?_ | refine Br.ff ?_ | (refine Br.mk (fun h => ?_) (fun h => ?_) <;> (try simp only [sh] at h) <;> (try first | (exfalso; omega) | exact absurd trivial h | (exfalso; simp at h; done))) | refine Ix.at ‹_› Qw ?_ | refine Ix.mapN Qw ?_ | refine Ix.mapN1 Qw ?_ | refine Ix.map Qw ?_ | refine Ix.at Qi Qw ?_ | refine lB (T := tab) ?_ | refine lBA (T := tab) ?_ | refine rA (T := tab) ?_ | refine r1 (T := tab) ?_ | refine LK.askW rfl ?_ | refine s1 ?_ | refine sA ?_ | refine pS (T := tab) ?_ | refine LK.gr (Gr.bslV (T := tab) rfl rfl rfl rfl) ?_ | refine Ask.of (Gr.bslV (T := tab) rfl rfl rfl rfl) ?_ | refine CK.any false Qk ?_ | refine CK.any true Qk ?_ | fail))
  (conv => whnf); refine CK.loopK [4, 5, 9, 10, 57, 58, 59, 60, 61, 62, 63, 64, 65, 66, 67, 68, 69, 70, 71, 72, 73, 74, 75, 76, 77, 78, 79, 80, 81, 82, 83, 84, 85, 86, 87, 88, 89] (σ := Nat × Nat × List Lt × Option Addr × Nat × Nat) (fun q => q.1 ≤ s.frm.length ∧ q.2.2.1.length ≤ s.cl.length + q.1 ∧ unitF log s.frm (s.cl.map negL) = unitF log (s.frm.drop q.1) q.2.2.1) (fun ⟨e, _, _, A, q, cp⟩ => [(9, I e), (5, .v (.slice A q cp))]) (fun ⟨_, m, held, A, q, cp⟩ => [.row (.slice A q cp) 45 3 m false (held.map ltav)]) _ (fun q => s.frm.length - q.1) (0, 0, s.cl.map negL, A, q, cp) ⟨Nat.zero_le _, by simp, rfl⟩ Qy (List.Sublist.refl _) ?_
  conv => whnf
  rintro ⟨e, m, held, A, q, cp⟩ ⟨e1, e2, e3⟩
  simp only at e1 e2 e3
  by_cases he : e < s.frm.length
  · have hfk := List.all_eq_true.1 j2 _ (gAt he)
    simp only [Bool.and_eq_true, decide_eq_true_eq] at hfk
    have hkl : (s.frm.getD e default).toNat < log.length := by omega
    have hcc := hc _ (gAt hkl)
    rw [dropG he, unitF] at e3
    have hhl : (held.map ltav).length = held.length := by simp
    have hol := open_len held (log.getD (s.frm.getD e default).toNat default).cl
    have c1 := bOpen_ok (log.getD (s.frm.getD e default).toNat default).cl held (by omega) (by omega)
    generalize openL held (log.getD (s.frm.getD e default).toNat default).cl = op at *
    have hop : (op.map ltav).length = op.length := by simp
    have hlo : (s.frm.drop (e + 1)).length = s.frm.length - (e + 1) := by simp
    repeat' ((conv => whnf) <;> (first | (refine LK.frzR 0 rfl ?_ <;> refine LK.callA ent78 c1 rfl rfl Ql ?_) | refine Ix.mapNs hs Qw ?_ | refine Must.mk (fun h => h) ?_ | refine Must.mk (fun _ => rfl) ?_ | refine Must.mk Qw ?_ | refine MW.ok Qw ?_ | intro _ | exact Fin.pure rfl | refine Br.tt ?_ | refine Br.ff ?_ | (refine Br.mk (fun h => ?_) (fun h => ?_) <;> (try simp only [sh] at h) <;> (try first | (exfalso; omega) | exact absurd trivial h | (exfalso; simp at h; done))) | refine Ix.at ‹_› Qw ?_ | refine Ix.mapN Qw ?_ | refine Ix.mapN1 Qw ?_ | refine Ix.map Qw ?_ | refine Ix.at Qi Qw ?_ | refine lB (T := tab) ?_ | refine lBA (T := tab) ?_ | refine rA (T := tab) ?_ | refine r1 (T := tab) ?_ | refine LK.askW rfl ?_ | refine s1 ?_ | refine sA ?_ | refine pS (T := tab) ?_ | refine LK.gr (Gr.bslV (T := tab) rfl rfl rfl rfl) ?_ | refine Ask.of (Gr.bslV (T := tab) rfl rfl rfl rfl) ?_ | refine CK.any false Qk ?_ | refine CK.any true Qk ?_ | fail))
    · conv => whnf
      refine Fin.pure (congrArg B ?_)
      rw [e3, if_pos (List.eq_nil_of_length_eq_zero (by omega)), decide_eq_decide]
      omega
    have hne : op ≠ [] := fun e => h (by rw [e]; rfl)
    rw [if_neg hne] at e3
    have c2 := bEqual_ok op (by omega) (List.length_pos_iff.2 hne)
    repeat' ((conv => whnf) <;> (first | refine Ix.mapNs hs Qw ?_ | refine Must.mk (fun h => h) ?_ | refine Must.mk (fun _ => rfl) ?_ | refine Must.mk Qw ?_ | refine MW.ok Qw ?_ | intro _ | exact Fin.pure rfl | refine Br.tt ?_ | refine Br.ff ?_ | (refine Br.mk (fun h => ?_) (fun h => ?_) <;> (try simp only [sh] at h) <;> (try first | (exfalso; omega) | exact absurd trivial h | (exfalso; simp at h; done))) | refine Ix.at ‹_› Qw ?_ | refine Ix.mapN Qw ?_ | refine Ix.mapN1 Qw ?_ | refine Ix.map Qw ?_ | refine Ix.at Qi Qw ?_ | refine LK.callA ent79 (c2) rfl rfl (SbL.refl _) ?_ | refine Ask.callA ent79 (fun h => c2) rfl rfl (SbL.refl _) ?_ | refine LK.callA ent79 (c2) rfl rfl Ql ?_ | refine Ask.callA ent79 (fun h => c2) rfl rfl Ql ?_ | refine lB (T := tab) ?_ | refine lBA (T := tab) ?_ | refine rA (T := tab) ?_ | refine r1 (T := tab) ?_ | refine LK.askW rfl ?_ | refine s1 ?_ | refine sA ?_ | refine pS (T := tab) ?_ | refine LK.gr (Gr.bslV (T := tab) rfl rfl rfl rfl) ?_ | refine Ask.of (Gr.bslV (T := tab) rfl rfl rfl rfl) ?_ | refine CK.any false Qk ?_ | refine CK.any true Qk ?_ | fail))
    · conv => whnf
      refine Fin.pure (congrArg B ?_)
      rw [e3, h, Bool.false_and]
    · rename_i A2 q2 cp2
      rw [h, Bool.true_and] at e3
      (conv => whnf); (refine Nxt.of ((e + 1, (held.map ltav).length, held ++ [op.getD 0 default], A2, q2, cp2)) [4, 5, 9, 10, 57, 58, 59, 60, 61, 62, 63, 64, 65, 66, 67, 68, 69, 70, 71, 72, 73, 74, 75, 76, 77, 78, 79, 80, 81, 82, 83, 84, 85, 86, 87, 88, 89] Qr Qr Qr ?_ ?_ Qy ?_ <;> (try dsimp only) <;> (try omega))
      · refine ⟨he, by simp; omega, ?_⟩
        rw [e3]
        exact unitF_cong _ fun x => by simp [or_comm]
      · rw [List.map_append]
        exact Qs
  · rw [List.drop_eq_nil_of_le (by omega), unitF] at e3
    repeat' ((conv => whnf) <;> (first | refine Ix.mapNs hs Qw ?_ | refine Must.mk (fun h => h) ?_ | refine Must.mk (fun _ => rfl) ?_ | refine Must.mk Qw ?_ | refine MW.ok Qw ?_ | intro _ | exact Fin.pure rfl | refine Br.tt ?_ | refine Br.ff ?_ | (refine Br.mk (fun h => ?_) (fun h => ?_) <;> (try simp only [sh] at h) <;> (try first | (exfalso; omega) | exact absurd trivial h | (exfalso; simp at h; done))) | refine Ix.at ‹_› Qw ?_ | refine Ix.mapN Qw ?_ | refine Ix.mapN1 Qw ?_ | refine Ix.map Qw ?_ | refine Ix.at Qi Qw ?_ | refine lB (T := tab) ?_ | refine lBA (T := tab) ?_ | refine rA (T := tab) ?_ | refine r1 (T := tab) ?_ | refine LK.askW rfl ?_ | refine s1 ?_ | refine sA ?_ | refine pS (T := tab) ?_ | refine LK.gr (Gr.bslV (T := tab) rfl rfl rfl rfl) ?_ | refine Ask.of (Gr.bslV (T := tab) rfl rfl rfl rfl) ?_ | refine CK.any false Qk ?_ | refine CK.any true Qk ?_ | fail))
    conv => whnf
    exact Fin.pure (congrArg B e3.symm)
theorem some_C (p : Pl) (s : Sg) : someB p s = (decide (s.frm.length = 0) && someC p s.cl) := by
  unfold someB someC
  simp only [Bool.and_assoc]
theorem one_C (s : Sg) : oneB s = (decide (s.frm.length = 0) && oneC s.cl) := by
  unfold oneB oneC
  simp only [Bool.and_assoc]
theorem bad_C (p : Pl) (s : Sg) : badS p s = (decide (s.frm.length = 0) && badC p s.cl) := by
  unfold badS badC denS denC
  by_cases h1 : s.frm.length = 0
  · by_cases h2 : 0 < s.cl.length
    · rw [decide_eq_true h1, decide_eq_true h2, if_pos (show (true && true) = true from rfl)]
      cases denL s.cl (List.replicate p.duties.length (-1)) <;> simp
    · rw [decide_eq_true h1, decide_eq_false h2, if_neg (by simp)]
      cases denL s.cl (List.replicate p.duties.length (-1)) <;> simp
  · rw [decide_eq_false h1, Bool.false_and, if_neg (by simp), Bool.false_and]
theorem cost_C (p : Pl) (b : Int) (s : Sg) : costS p b s = (decide (s.frm.length = 0) && costC p b s.cl) := by
  unfold costS costC denS denC
  by_cases h1 : s.frm.length = 0
  · by_cases h2 : 0 < s.cl.length
    · rw [decide_eq_true h1, decide_eq_true h2, if_pos (show (true && true) = true from rfl)]
      cases denL s.cl (List.replicate p.duties.length (-1)) <;> simp
    · rw [decide_eq_true h1, decide_eq_false h2, if_neg (by simp)]
      cases denL s.cl (List.replicate p.duties.length (-1)) <;> simp
  · rw [decide_eq_false h1, Bool.false_and, if_neg (by simp), Bool.false_and]
theorem rule_C (p : Pl) (b : Int) (log : List Sg) (k : Int) (s : Sg) : ruleB p b log k s = if s.rule = 5 then unitB log k s else decide (s.frm.length = 0) && (if s.rule = 1 then someC p s.cl else if s.rule = 2 then oneC s.cl else if s.rule = 3 then badC p s.cl else if s.rule = 4 then costC p b s.cl else false) := by
  unfold ruleB
  rw [some_C, one_C, bad_C, cost_C]
  by_cases h5 : s.rule = 5
  · rw [if_pos h5, if_neg (by omega), if_neg (by omega), if_neg (by omega), if_neg (by omega), if_pos h5]
  · rw [if_neg h5, if_neg h5]
    split
    · rfl
    split
    · rfl
    split
    · rfl
    split
    · rfl
    · rw [Bool.and_false]
set_option maxRecDepth 4000 in
set_option maxHeartbeats 8000000 in
theorem bFol_ok (p : Pl) (bd : Int) (log : List Sg) (k : Nat) (hs : Small p) (hv : validP p = true) (hk : k < log.length) (hll : log.length ≤ 100000) (hc : ∀ s ∈ log, s.cl.length ≤ 10000 ∧ s.frm.length ≤ 10000) : FnA Tryz.prog 21 [.agg (pcs p), I bd, .sl 3 (log.map sgav), I k] (B (follB p bd log k)) := by
  have hlg : (log.map sgav).length = log.length := by simp
  have hck := hc _ (gAt hk)
  have c5 := bUnit_ok log k hk hll hc
  unfold follB
  rw [rule_C]
  generalize hsg : log.getD k default = s at *
  have hlc : (s.cl.map ltav).length = s.cl.length := by simp
  have hlf : (s.frm.map I).length = s.frm.length := by simp
  have c0 := bProper_ok p s.cl hs.du hs.wk (by omega)
  have c1 := bSome_ok p s.cl hs.du hs.wk (by omega)
  have c2 := bOne_ok s.cl (by omega)
  by_cases hp : s.cl.all (properB p) = true
  · have c3 := bBad_ok p s.cl hs hv (by omega) hp
    have c4 := bCost_ok p bd s.cl hs hv (by omega) hp
    refine fn_run (T := tab) Tryz.func21 rfl Tryz.ntmps21 rfl Tryz.results21 (fun _ => ?_)
    repeat' ((conv => whnf) <;> (first | refine Ix.mapNs hsg Qw ?_ | refine Must.mk (fun h => h) ?_ | refine Must.mk (fun _ => rfl) ?_ | refine Must.mk Qw ?_ | refine MW.ok Qw ?_ | intro _ | exact Fin.pure rfl | refine Br.tt ?_ | refine Br.ff ?_ | (refine Br.mk (fun h => ?_) (fun h => ?_) <;> (try simp only [sh] at h) <;> (try first | (exfalso; omega) | exact absurd trivial h | (exfalso; simp at h; done))) | refine Ix.at ‹_› Qw ?_ | refine Ix.mapN Qw ?_ | refine Ix.mapN1 Qw ?_ | refine Ix.map Qw ?_ | refine Ix.at Qi Qw ?_ | refine LK.callA ent44 (c0) rfl rfl (SbL.refl _) ?_ | refine Ask.callA ent44 (fun h => c0) rfl rfl (SbL.refl _) ?_ | refine LK.callA ent44 (c0) rfl rfl Ql ?_ | refine Ask.callA ent44 (fun h => c0) rfl rfl Ql ?_ | refine LK.callA ent45 (c1) rfl rfl (SbL.refl _) ?_ | refine Ask.callA ent45 (fun h => c1) rfl rfl (SbL.refl _) ?_ | refine LK.callA ent45 (c1) rfl rfl Ql ?_ | refine Ask.callA ent45 (fun h => c1) rfl rfl Ql ?_ | refine LK.callA ent46 (c2) rfl rfl (SbL.refl _) ?_ | refine Ask.callA ent46 (fun h => c2) rfl rfl (SbL.refl _) ?_ | refine LK.callA ent46 (c2) rfl rfl Ql ?_ | refine Ask.callA ent46 (fun h => c2) rfl rfl Ql ?_ | refine LK.callA ent47 (c3) rfl rfl (SbL.refl _) ?_ | refine Ask.callA ent47 (fun h => c3) rfl rfl (SbL.refl _) ?_ | refine LK.callA ent47 (c3) rfl rfl Ql ?_ | refine Ask.callA ent47 (fun h => c3) rfl rfl Ql ?_ | refine LK.callA ent48 (c4) rfl rfl (SbL.refl _) ?_ | refine Ask.callA ent48 (fun h => c4) rfl rfl (SbL.refl _) ?_ | refine LK.callA ent48 (c4) rfl rfl Ql ?_ | refine Ask.callA ent48 (fun h => c4) rfl rfl Ql ?_ | refine LK.callA ent49 (c5) rfl rfl (SbL.refl _) ?_ | refine Ask.callA ent49 (fun h => c5) rfl rfl (SbL.refl _) ?_ | refine LK.callA ent49 (c5) rfl rfl Ql ?_ | refine Ask.callA ent49 (fun h => c5) rfl rfl Ql ?_ | refine lB (T := tab) ?_ | refine lBA (T := tab) ?_ | refine rA (T := tab) ?_ | refine r1 (T := tab) ?_ | refine LK.askW rfl ?_ | refine s1 ?_ | refine sA ?_ | refine CK.any false Qk ?_ | fail))
    all_goals (conv => whnf)
    all_goals (refine Fin.pure (congrArg B ?_))
    all_goals grind
  · rw [Bool.eq_false_iff.2 hp] at c0 ⊢
    refine fn_run (T := tab) Tryz.func21 rfl Tryz.ntmps21 rfl Tryz.results21 (fun _ => ?_)
    repeat' ((conv => whnf) <;> (first | refine Ix.mapNs hsg Qw ?_ | refine Must.mk (fun h => h) ?_ | refine Must.mk (fun _ => rfl) ?_ | refine Must.mk Qw ?_ | refine MW.ok Qw ?_ | intro _ | exact Fin.pure rfl | refine Fin.pure ?_ | refine Br.tt ?_ | refine Br.ff ?_ | (refine Br.mk (fun h => ?_) (fun h => ?_) <;> (try simp only [sh] at h) <;> (try first | (exfalso; omega) | exact absurd trivial h | (exfalso; simp at h; done))) | refine Ix.at ‹_› Qw ?_ | refine Ix.mapN Qw ?_ | refine Ix.mapN1 Qw ?_ | refine Ix.map Qw ?_ | refine Ix.at Qi Qw ?_ | refine LK.callA ent44 (c0) rfl rfl (SbL.refl _) ?_ | refine Ask.callA ent44 (fun h => c0) rfl rfl (SbL.refl _) ?_ | refine LK.callA ent44 (c0) rfl rfl Ql ?_ | refine Ask.callA ent44 (fun h => c0) rfl rfl Ql ?_ | refine lB (T := tab) ?_ | refine lBA (T := tab) ?_ | refine rA (T := tab) ?_ | refine r1 (T := tab) ?_ | refine LK.askW rfl ?_ | refine s1 ?_ | refine sA ?_ | refine CK.any false Qk ?_ | fail))
set_option maxRecDepth 4000 in
set_option maxHeartbeats 4000000 in
theorem bStep_ok (p : Pl) (bd : Int) (log : List Sg) (k : Int) (hs : Small p) (hll : log.length ≤ 100000) (hc : ∀ s ∈ log, s.cl.length ≤ 10000 ∧ s.frm.length ≤ 10000) : FnA Tryz.prog 10 [.agg (pcs p), I bd, .sl 3 (log.map sgav), I k] (B (stepB p bd log k)) := by
  have c1 := v8Valid_ok p hs
  have hlg : (log.map sgav).length = log.length := by simp
  by_cases hall : validP p = true ∧ 0 ≤ k ∧ k < log.length
  · obtain ⟨hv, h0, h1⟩ := hall
    obtain ⟨n, rfl⟩ := Int.eq_ofNat_of_zero_le h0
    have c2 := bFol_ok p bd log n hs hv (by omega) hll hc
    refine fn_run (T := tab) Tryz.func10 rfl Tryz.ntmps10 rfl Tryz.results10 (fun _ => ?_)
    repeat' ((conv => whnf) <;> (first | refine Must.mk (fun h => h) ?_ | refine Must.mk (fun _ => rfl) ?_ | refine Must.mk Qw ?_ | refine MW.ok Qw ?_ | intro _ | exact Fin.pure rfl | refine Br.tt ?_ | refine Br.ff ?_ | (refine Br.mk (fun h => ?_) (fun h => ?_) <;> (try simp only [sh] at h) <;> (try first | (exfalso; omega) | exact absurd trivial h | (exfalso; simp at h; done))) | refine Ix.at ‹_› Qw ?_ | refine Ix.mapN Qw ?_ | refine Ix.mapN1 Qw ?_ | refine Ix.map Qw ?_ | refine Ix.at Qi Qw ?_ | refine LK.callA ent15 (c1) rfl rfl (SbL.refl _) ?_ | refine Ask.callA ent15 (fun h => c1) rfl rfl (SbL.refl _) ?_ | refine LK.callA ent15 (c1) rfl rfl Ql ?_ | refine Ask.callA ent15 (fun h => c1) rfl rfl Ql ?_ | refine LK.callA ent21 (c2) rfl rfl (SbL.refl _) ?_ | refine Ask.callA ent21 (fun h => c2) rfl rfl (SbL.refl _) ?_ | refine LK.callA ent21 (c2) rfl rfl Ql ?_ | refine Ask.callA ent21 (fun h => c2) rfl rfl Ql ?_ | refine lB (T := tab) ?_ | refine lBA (T := tab) ?_ | refine rA (T := tab) ?_ | refine r1 (T := tab) ?_ | refine LK.askW rfl ?_ | refine s1 ?_ | refine sA ?_ | refine CK.any false Qk ?_ | fail))
    conv => whnf
    refine Fin.pure (congrArg B ?_)
    unfold stepB
    rw [hlg, Int.toNat_natCast]
    congr 4
    rw [decide_eq_decide]
    omega
  · have hS : stepB p bd log k = false := by
      refine Bool.eq_false_iff.2 fun hc => hall ?_
      unfold stepB at hc
      simp only [Bool.and_eq_true, decide_eq_true_eq] at hc
      exact ⟨hc.1.1.1.1, hc.1.1.2, hc.1.2⟩
    rw [hS]
    refine fn_run (T := tab) Tryz.func10 rfl Tryz.ntmps10 rfl Tryz.results10 (fun _ => ?_)
    repeat' ((conv => whnf) <;> (first | refine Ask.callA (r := B false) ent21 (fun h => by simp only [sh] at h; exact absurd ⟨h.1.1.1, h.1.2, by omega⟩ hall) rfl rfl (SbL.refl _) ?_ | refine Must.mk (fun h => h) ?_ | refine Must.mk (fun _ => rfl) ?_ | refine Must.mk Qw ?_ | refine MW.ok Qw ?_ | intro _ | exact Fin.pure rfl | refine Br.tt ?_ | refine Br.ff ?_ | (refine Br.mk (fun h => ?_) (fun h => ?_) <;> (try simp only [sh] at h) <;> (try first | (exfalso; omega) | exact absurd trivial h | (exfalso; simp at h; done))) | refine Ix.at ‹_› Qw ?_ | refine Ix.mapN Qw ?_ | refine Ix.mapN1 Qw ?_ | refine Ix.map Qw ?_ | refine Ix.at Qi Qw ?_ | refine LK.callA ent15 (c1) rfl rfl (SbL.refl _) ?_ | refine Ask.callA ent15 (fun h => c1) rfl rfl (SbL.refl _) ?_ | refine LK.callA ent15 (c1) rfl rfl Ql ?_ | refine Ask.callA ent15 (fun h => c1) rfl rfl Ql ?_ | refine lB (T := tab) ?_ | refine lBA (T := tab) ?_ | refine rA (T := tab) ?_ | refine r1 (T := tab) ?_ | refine LK.askW rfl ?_ | refine s1 ?_ | refine sA ?_ | refine CK.any false Qk ?_ | fail))
    conv => whnf
    refine Fin.pure (congrArg B ?_)
    simp
set_option maxRecDepth 4000 in
set_option maxHeartbeats 4000000 in
theorem bCheck_ok (p : Pl) (bd : Int) (log : List Sg) (hs : Small p) (hll : log.length ≤ 100000) (hc : ∀ s ∈ log, s.cl.length ≤ 10000 ∧ s.frm.length ≤ 10000) : FnA Tryz.prog 12 [.agg (pcs p), I bd, .sl 3 (log.map sgav)] (B (checkB p bd log)) := by
  have c1 := v8Valid_ok p hs
  have hlg : (log.map sgav).length = log.length := by simp
  refine fn_run (T := tab) Tryz.func12 rfl Tryz.ntmps12 rfl Tryz.results12 (fun _ => ?_)
  repeat' ((conv => whnf) <;> (first | refine Must.mk (fun h => h) ?_ | refine Must.mk (fun _ => rfl) ?_ | refine Must.mk Qw ?_ | refine MW.ok Qw ?_ | intro _ | exact Fin.pure rfl | refine Br.tt ?_ | refine Br.ff ?_ | (refine Br.mk (fun h => ?_) (fun h => ?_) <;> (try simp only [sh] at h) <;> (try first | (exfalso; omega) | exact absurd trivial h | (exfalso; simp at h; done))) | refine Ix.at ‹_› Qw ?_ | refine Ix.mapN Qw ?_ | refine Ix.mapN1 Qw ?_ | refine Ix.map Qw ?_ | refine Ix.at Qi Qw ?_ | refine LK.callA ent15 (c1) rfl rfl (SbL.refl _) ?_ | refine Ask.callA ent15 (fun h => c1) rfl rfl (SbL.refl _) ?_ | refine LK.callA ent15 (c1) rfl rfl Ql ?_ | refine Ask.callA ent15 (fun h => c1) rfl rfl Ql ?_ | refine lB (T := tab) ?_ | refine lBA (T := tab) ?_ | refine rA (T := tab) ?_ | refine r1 (T := tab) ?_ | refine LK.askW rfl ?_ | refine s1 ?_ | refine sA ?_ | refine CK.any false Qk ?_ | fail))
  · conv => whnf
    refine Fin.pure (congrArg B ?_)
    refine (Bool.eq_false_iff.2 fun hc => ?_).symm
    unfold checkB at hc
    simp only [Bool.and_eq_true, decide_eq_true_eq] at hc
    rcases h with (h | h) | h
    · rw [hc.1.1.1.1] at h; cases h
    · omega
    · omega
  have hv : validP p = true := h.1.1
  have hS : checkB p bd log = ((List.range log.length).all (follB p bd log) && decide ((log.getD (log.length - 1) default).cl.length = 0)) := by
    unfold checkB
    rw [hv, decide_eq_true (by omega : 1 ≤ log.length), decide_eq_true (by omega : log.length ≤ 20000)]
    rfl
  (conv => whnf); refine CK.loop [6, 7, 21, 22, 23, 24, 25, 26, 27, 28, 29, 30, 31, 32] (σ := Nat) (fun k => k ≤ log.length ∧ (List.range k).all (follB p bd log) = true) (fun k => [(7, I k)]) (fun _ => _) (fun k => log.length - k) 0 ⟨Nat.zero_le _, rfl⟩ Qy (List.Sublist.refl _) ?_
  conv => whnf
  rintro k ⟨i1, i2⟩
  by_cases hk : k < log.length
  · have c2 := bFol_ok p bd log k hs hv hk hll hc
    repeat' ((conv => whnf) <;> (first | refine Must.mk (fun h => h) ?_ | refine Must.mk (fun _ => rfl) ?_ | refine Must.mk Qw ?_ | refine MW.ok Qw ?_ | intro _ | exact Fin.pure rfl | refine Br.tt ?_ | refine Br.ff ?_ | (refine Br.mk (fun h => ?_) (fun h => ?_) <;> (try simp only [sh] at h) <;> (try first | (exfalso; omega) | exact absurd trivial h | (exfalso; simp at h; done))) | refine Ix.at ‹_› Qw ?_ | refine Ix.mapN Qw ?_ | refine Ix.mapN1 Qw ?_ | refine Ix.map Qw ?_ | refine Ix.at Qi Qw ?_ | refine LK.callA ent21 (c2) rfl rfl (SbL.refl _) ?_ | refine Ask.callA ent21 (fun h => c2) rfl rfl (SbL.refl _) ?_ | refine LK.callA ent21 (c2) rfl rfl Ql ?_ | refine Ask.callA ent21 (fun h => c2) rfl rfl Ql ?_ | refine lB (T := tab) ?_ | refine lBA (T := tab) ?_ | refine rA (T := tab) ?_ | refine r1 (T := tab) ?_ | refine LK.askW rfl ?_ | refine s1 ?_ | refine sA ?_ | refine CK.any false Qk ?_ | fail))
    · conv => whnf
      refine Fin.pure (congrArg B ?_)
      rw [hS, all_fail hk (by assumption), Bool.false_and]
    · (conv => whnf); (refine Nxt.of (k + 1) [6, 7, 21, 22, 23, 24, 25, 26, 27, 28, 29, 30, 31, 32] Qr Qr Qr ?_ ?_ Qy Qs <;> (try dsimp only) <;> (try omega))
      exact ⟨hk, all_succ i2 (by assumption)⟩
  · obtain rfl : k = log.length := by omega
    have hlc : ((log.getD (log.length - 1) default).cl.map ltav).length = (log.getD (log.length - 1) default).cl.length := by simp
    repeat' ((conv => whnf) <;> (first | refine Must.mk (fun h => h) ?_ | refine Must.mk (fun _ => rfl) ?_ | refine Must.mk Qw ?_ | refine MW.ok Qw ?_ | intro _ | exact Fin.pure rfl | refine Br.tt ?_ | refine Br.ff ?_ | (refine Br.mk (fun h => ?_) (fun h => ?_) <;> (try simp only [sh] at h) <;> (try first | (exfalso; omega) | exact absurd trivial h | (exfalso; simp at h; done))) | refine Ix.at ‹_› Qw ?_ | refine Ix.mapN Qw ?_ | refine Ix.mapN1 Qw ?_ | refine Ix.map Qw ?_ | refine Ix.at Qi Qw ?_ | refine lB (T := tab) ?_ | refine lBA (T := tab) ?_ | refine rA (T := tab) ?_ | refine r1 (T := tab) ?_ | refine LK.askW rfl ?_ | refine s1 ?_ | refine sA ?_ | refine CK.any false Qk ?_ | fail))
    conv => whnf
    refine Fin.pure (congrArg B ?_)
    have e : (((log.map sgav).length : Int) - 1).toNat = log.length - 1 := by omega
    rw [hS, i2, Bool.true_and, e, List.length_map, decide_eq_decide]
    omega
set_option maxRecDepth 4000 in
set_option maxHeartbeats 4000000 in
theorem dMatches_all (p : Pl) (bd : Int) (log : List Sg) (k : Int) (hz : PlZ p) (hl : LogZ log) :
    FnA Tryz.prog 3 [.agg (pcs p), I bd, .sl 3 (log.map sgav), I k] (B true) := by
  have c0 := dHead_ok
  have c1 := dSmall_ok p log hz hl
  by_cases hs : smallG p log = true
  · have h60 : log.length ≤ 100000 ∧ ∀ s ∈ log, s.cl.length ≤ 10000 ∧ s.frm.length ≤ 10000 := by
      unfold smallG at hs
      rw [Bool.and_eq_true_iff] at hs
      have := shortB_iff.1 hs.2
      exact ⟨by omega, fun s hs => by have := this.2 s hs; omega⟩
    obtain ⟨h1, h2⟩ := smallG_s hs
    rw [hs] at c1
    have k1 := uStep_ok p bd log k h1 h2
    have k2 := bStep_ok p bd log k h1 h60.1 h60.2
    have k3 := uCheck_ok p bd log h1 h2
    have k4 := bCheck_ok p bd log h1 h60.1 h60.2
    refine fn_run (T := tab) Tryz.func3 rfl Tryz.ntmps3 rfl Tryz.results3 (fun _ => ?_)
    repeat' ((conv => whnf) <;> (first | refine Must.mk (fun h => h) ?_ | refine Must.mk (fun _ => rfl) ?_ | refine Must.mk Qw ?_ | refine MW.ok Qw ?_ | intro _ | exact Fin.pure rfl | refine Br.tt ?_ | refine Br.ff ?_ | (refine Br.mk (fun h => ?_) (fun h => ?_) <;> (try simp only [sh] at h) <;> (try first | (exfalso; omega) | exact absurd trivial h | (exfalso; simp at h; done))) | refine Ix.at ‹_› Qw ?_ | refine Ix.mapN Qw ?_ | refine Ix.mapN1 Qw ?_ | refine Ix.map Qw ?_ | refine Ix.at Qi Qw ?_ | refine LK.callA ent7 (c0) rfl rfl (SbL.refl _) ?_ | refine Ask.callA ent7 (fun h => c0) rfl rfl (SbL.refl _) ?_ | refine LK.callA ent7 (c0) rfl rfl Ql ?_ | refine Ask.callA ent7 (fun h => c0) rfl rfl Ql ?_ | refine LK.callA ent8 (c1) rfl rfl (SbL.refl _) ?_ | refine Ask.callA ent8 (fun h => c1) rfl rfl (SbL.refl _) ?_ | refine LK.callA ent8 (c1) rfl rfl Ql ?_ | refine Ask.callA ent8 (fun h => c1) rfl rfl Ql ?_ | refine LK.callA ent9 (k1) rfl rfl (SbL.refl _) ?_ | refine Ask.callA ent9 (fun h => k1) rfl rfl (SbL.refl _) ?_ | refine LK.callA ent9 (k1) rfl rfl Ql ?_ | refine Ask.callA ent9 (fun h => k1) rfl rfl Ql ?_ | refine LK.callA ent10 (k2) rfl rfl (SbL.refl _) ?_ | refine Ask.callA ent10 (fun h => k2) rfl rfl (SbL.refl _) ?_ | refine LK.callA ent10 (k2) rfl rfl Ql ?_ | refine Ask.callA ent10 (fun h => k2) rfl rfl Ql ?_ | refine LK.callA ent11 (k3) rfl rfl (SbL.refl _) ?_ | refine Ask.callA ent11 (fun h => k3) rfl rfl (SbL.refl _) ?_ | refine LK.callA ent11 (k3) rfl rfl Ql ?_ | refine Ask.callA ent11 (fun h => k3) rfl rfl Ql ?_ | refine LK.callA ent12 (k4) rfl rfl (SbL.refl _) ?_ | refine Ask.callA ent12 (fun h => k4) rfl rfl (SbL.refl _) ?_ | refine LK.callA ent12 (k4) rfl rfl Ql ?_ | refine Ask.callA ent12 (fun h => k4) rfl rfl Ql ?_ | refine lB (T := tab) ?_ | refine lBA (T := tab) ?_ | refine rA (T := tab) ?_ | refine r1 (T := tab) ?_ | refine LK.askW rfl ?_ | refine s1 ?_ | refine sA ?_ | refine CK.any false Qk ?_ | fail))
    all_goals (conv => whnf)
    all_goals (refine Fin.pure (congrArg B ?_))
    all_goals simp
  · rw [Bool.eq_false_iff.2 hs] at c1
    refine fn_run (T := tab) Tryz.func3 rfl Tryz.ntmps3 rfl Tryz.results3 (fun _ => ?_)
    repeat' ((conv => whnf) <;> (first | refine Must.mk (fun h => h) ?_ | refine Must.mk (fun _ => rfl) ?_ | refine Must.mk Qw ?_ | refine MW.ok Qw ?_ | intro _ | exact Fin.pure rfl | refine Fin.pure ?_ | refine Br.tt ?_ | refine Br.ff ?_ | (refine Br.mk (fun h => ?_) (fun h => ?_) <;> (try simp only [sh] at h) <;> (try first | (exfalso; omega) | exact absurd trivial h | (exfalso; simp at h; done))) | refine Ix.at ‹_› Qw ?_ | refine Ix.mapN Qw ?_ | refine Ix.mapN1 Qw ?_ | refine Ix.map Qw ?_ | refine Ix.at Qi Qw ?_ | refine LK.callA ent7 (c0) rfl rfl (SbL.refl _) ?_ | refine Ask.callA ent7 (fun h => c0) rfl rfl (SbL.refl _) ?_ | refine LK.callA ent7 (c0) rfl rfl Ql ?_ | refine Ask.callA ent7 (fun h => c0) rfl rfl Ql ?_ | refine LK.callA ent8 (c1) rfl rfl (SbL.refl _) ?_ | refine Ask.callA ent8 (fun h => c1) rfl rfl (SbL.refl _) ?_ | refine LK.callA ent8 (c1) rfl rfl Ql ?_ | refine Ask.callA ent8 (fun h => c1) rfl rfl Ql ?_ | refine lB (T := tab) ?_ | refine lBA (T := tab) ?_ | refine rA (T := tab) ?_ | refine r1 (T := tab) ?_ | refine LK.askW rfl ?_ | refine s1 ?_ | refine sA ?_ | refine CK.any false Qk ?_ | fail))
end Go.Proofs.YthjllgabmgkocaaGreat
