/-
  Walks: complete rosters; RefuteSound, RefuteSteps.
  Conditions: those of each theorem.
-/
import Derived.Test.YthjllgabmgkocaaGreatRG9
import Derived.Test.YthjllgabmgkocaaGreatRK
import Derived.Test.YthjllgabmgkocaaGreatRO9
namespace Go.Proofs.YthjllgabmgkocaaGreat
open Go.E2 Go.Wage
def geW (w : Int) : Bool := decide (0 ≤ w)
def cmpB (p : Pl) (ro : List Int) (b : Int) : Bool := ro.all geW && ((okRo p ro && decide ((badP p ro).length = 0)) && decide (costP p ro p.duties < b))
theorem cmpB_c {p : Pl} {ro : List Int} {b : Int} (h : cmpB p ro b = true) : Cmp p ro b := by
  unfold cmpB okRo at h
  simp only [Bool.and_eq_true, decide_eq_true_eq, List.all_eq_true] at h
  exact ⟨h.2.1.1.1, h.2.1.1.2, fun w hw => by have := h.1 w hw; unfold geW at this; rwa [decide_eq_true_eq] at this, List.eq_nil_of_length_eq_zero h.2.1.2, h.2.2⟩
set_option maxHeartbeats 4000000 in
theorem dComplete_ok (p : Pl) (ro : List Int) (b : Int) (hs : Small p) (hr : ro.length ≤ 1000) : FnA Tryz.prog 14 [.agg (pcs p), .sl 1 (ro.map I), I b] (B (cmpB p ro b)) := by
  have c1 := oBad_ok p ro hs
  have c2 := oCost_ok p ro hs
  have hlr : (ro.map I).length = ro.length := by simp
  have hbl : ((badP p ro).map viav).length = (badP p ro).length := by simp
  refine fn_run (T := tab) Tryz.func14 rfl Tryz.ntmps14 rfl Tryz.results14 (fun _ => ?_)
  repeat' ((conv => whnf) <;> (first | refine Must.mk (fun h => h) ?_ | refine Must.mk (fun _ => rfl) ?_ | refine Must.mk Qw ?_ | refine MW.ok Qw ?_ | intro _ | exact Fin.pure rfl | refine Br.tt ?_ | refine Br.ff ?_ | (refine Br.mk (fun h => ?_) (fun h => ?_) <;> (try simp only [sh] at h) <;> (try first | (exfalso; omega) | exact absurd trivial h | (exfalso; simp at h; done))) | refine Ix.at ‹_› Qw ?_ | refine Ix.mapN Qw ?_ | refine Ix.mapN1 Qw ?_ | refine Ix.map Qw ?_ | refine Ix.at Qi Qw ?_ | refine lB (T := tab) ?_ | refine lBA (T := tab) ?_ | refine LK.askW rfl ?_ | refine s1 ?_ | refine sA ?_ | refine CK.any false Qk ?_ | fail))
  (conv => whnf); refine CK.loop [6, 7, 12, 13, 14, 15, 16, 17, 18, 19, 20, 21, 22] (σ := Nat) (fun k => k ≤ ro.length ∧ (ro.take k).all geW = true) (fun k => [(7, I k)]) (fun _ => _) (fun k => ro.length - k) 0 ⟨Nat.zero_le _, rfl⟩ Qy (List.Sublist.refl _) ?_
  conv => whnf
  rintro k ⟨i1, i2⟩
  by_cases hk : k < ro.length
  · repeat' ((conv => whnf) <;> (first | refine Must.mk (fun h => h) ?_ | refine Must.mk (fun _ => rfl) ?_ | refine Must.mk Qw ?_ | refine MW.ok Qw ?_ | intro _ | exact Fin.pure rfl | refine Br.tt ?_ | refine Br.ff ?_ | (refine Br.mk (fun h => ?_) (fun h => ?_) <;> (try simp only [sh] at h) <;> (try first | (exfalso; omega) | exact absurd trivial h | (exfalso; simp at h; done))) | refine Ix.at ‹_› Qw ?_ | refine Ix.mapN Qw ?_ | refine Ix.mapN1 Qw ?_ | refine Ix.map Qw ?_ | refine Ix.at Qi Qw ?_ | refine lB (T := tab) ?_ | refine lBA (T := tab) ?_ | refine LK.askW rfl ?_ | refine s1 ?_ | refine sA ?_ | refine CK.any false Qk ?_ | fail))
    · conv => whnf
      refine Fin.pure (congrArg B ?_)
      rw [cmpB, all_at hk (by unfold geW; rw [decide_eq_false_iff_not]; omega), Bool.false_and]
    · (conv => whnf); (refine Nxt.of (k + 1) [6, 7, 12, 13, 14, 15, 16, 17, 18, 19, 20, 21, 22] Qr Qr Qr ?_ ?_ Qy Qs <;> (try dsimp only) <;> (try omega))
      exact ⟨hk, all_take i2 hk (by unfold geW; rw [decide_eq_true_eq]; omega)⟩
  · rw [List.take_of_length_le (by omega)] at i2
    unfold cmpB
    rw [i2, Bool.true_and]
    by_cases hok : okRo p ro = true
    · rw [if_pos hok, if_pos hok] at c1 c2
      rw [hok]
      repeat' ((conv => whnf) <;> (first | refine Must.mk (fun h => h) ?_ | refine Must.mk (fun _ => rfl) ?_ | refine Must.mk Qw ?_ | refine MW.ok Qw ?_ | intro _ | exact Fin.pure rfl | refine Br.tt ?_ | refine Br.ff ?_ | (refine Br.mk (fun h => ?_) (fun h => ?_) <;> (try simp only [sh] at h) <;> (try first | (exfalso; omega) | exact absurd trivial h | (exfalso; simp at h; done))) | refine Ix.at ‹_› Qw ?_ | refine Ix.mapN Qw ?_ | refine Ix.mapN1 Qw ?_ | refine Ix.map Qw ?_ | refine Ix.at Qi Qw ?_ | refine LK.callA ent22 (c1) rfl rfl (SbL.refl _) ?_ | refine Ask.callA ent22 (fun h => c1) rfl rfl (SbL.refl _) ?_ | refine LK.callA ent22 (c1) rfl rfl Ql ?_ | refine Ask.callA ent22 (fun h => c1) rfl rfl Ql ?_ | refine LK.callA ent23 (c2) rfl rfl (SbL.refl _) ?_ | refine Ask.callA ent23 (fun h => c2) rfl rfl (SbL.refl _) ?_ | refine LK.callA ent23 (c2) rfl rfl Ql ?_ | refine Ask.callA ent23 (fun h => c2) rfl rfl Ql ?_ | refine lB (T := tab) ?_ | refine lBA (T := tab) ?_ | refine LK.askW rfl ?_ | refine s1 ?_ | refine sA ?_ | refine CK.any false Qk ?_ | fail))
      conv => whnf
      refine Fin.pure (congrArg B ?_)
      rw [hbl]
      simp
    · rw [if_neg hok, if_neg hok] at c1 c2
      rw [Bool.eq_false_iff.2 hok]
      repeat' ((conv => whnf) <;> (first | refine Must.mk (fun h => h) ?_ | refine Must.mk (fun _ => rfl) ?_ | refine Must.mk Qw ?_ | refine MW.ok Qw ?_ | intro _ | exact Fin.pure rfl | refine Br.tt ?_ | refine Br.ff ?_ | (refine Br.mk (fun h => ?_) (fun h => ?_) <;> (try simp only [sh] at h) <;> (try first | (exfalso; omega) | exact absurd trivial h | (exfalso; simp at h; done))) | refine Ix.at ‹_› Qw ?_ | refine Ix.mapN Qw ?_ | refine Ix.mapN1 Qw ?_ | refine Ix.map Qw ?_ | refine Ix.at Qi Qw ?_ | refine LK.callA ent22 (c1) rfl rfl (SbL.refl _) ?_ | refine Ask.callA ent22 (fun h => c1) rfl rfl (SbL.refl _) ?_ | refine LK.callA ent22 (c1) rfl rfl Ql ?_ | refine Ask.callA ent22 (fun h => c1) rfl rfl Ql ?_ | refine LK.callA ent23 (c2) rfl rfl (SbL.refl _) ?_ | refine Ask.callA ent23 (fun h => c2) rfl rfl (SbL.refl _) ?_ | refine LK.callA ent23 (c2) rfl rfl Ql ?_ | refine Ask.callA ent23 (fun h => c2) rfl rfl Ql ?_ | refine lB (T := tab) ?_ | refine lBA (T := tab) ?_ | refine LK.askW rfl ?_ | refine s1 ?_ | refine sA ?_ | refine CK.any false Qk ?_ | fail))
theorem smallV_ro {p : Pl} {ro : List Int} (h : smallV p ro 9 = true) : ro.length ≤ 1000 := by
  have := (smallV_iff.1 h).2.1
  omega
theorem check_sound {p : Pl} {b : Int} {log : List Sg} {ro : List Int} (hc : checkB p b log = true) (h : cmpB p ro b = true) : False := by
  have hC := cmpB_c h
  unfold checkB at hc
  simp only [Bool.and_eq_true, decide_eq_true_eq, List.all_eq_true, List.mem_range] at hc
  have := foll_sound hC log.length (log.length - 1) (by omega) hc.1.2
  rw [List.eq_nil_of_length_eq_zero hc.2] at this
  cases this
set_option maxRecDepth 4000 in
set_option maxHeartbeats 4000000 in
theorem dSound_all (p : Pl) (bd : Int) (log : List Sg) (ro : List Int) (hz : PlZ p) (hl : LogZ log) (hr : ro.length ≤ 9223372036854775807) :
    FnA Tryz.prog 4 [.agg (pcs p), I bd, .sl 3 (log.map sgav), .sl 1 (ro.map I)] (B true) := by
  have c0 := dHead_ok
  have c1 := dSmall_ok p log hz hl
  have c2 := vSmall_ok p ro 9 hz.ch hz.wk hr hz.aw
  by_cases hs : smallG p log = true
  · obtain ⟨h1, h2⟩ := smallG_s hs
    rw [hs] at c1
    by_cases hs2 : smallV p ro 9 = true
    · rw [hs2] at c2
      have k1 := uCheck_ok p bd log h1 h2
      have k2 := dComplete_ok p ro bd h1 (smallV_ro hs2)
      have hf : checkB p bd log = true → cmpB p ro bd = true → False := check_sound
      refine fn_run (T := tab) Tryz.func4 rfl Tryz.ntmps4 rfl Tryz.results4 (fun _ => ?_)
      repeat' ((conv => whnf) <;> (first | refine Must.mk (fun h => h) ?_ | refine Must.mk (fun _ => rfl) ?_ | refine Must.mk Qw ?_ | refine MW.ok Qw ?_ | intro _ | exact Fin.pure rfl | refine Br.tt ?_ | refine Br.ff ?_ | (refine Br.mk (fun h => ?_) (fun h => ?_) <;> (try simp only [sh] at h) <;> (try first | (exfalso; omega) | exact absurd trivial h | (exfalso; simp at h; done))) | refine Ix.at ‹_› Qw ?_ | refine Ix.mapN Qw ?_ | refine Ix.mapN1 Qw ?_ | refine Ix.map Qw ?_ | refine Ix.at Qi Qw ?_ | refine LK.callA ent7 (c0) rfl rfl (SbL.refl _) ?_ | refine Ask.callA ent7 (fun h => c0) rfl rfl (SbL.refl _) ?_ | refine LK.callA ent7 (c0) rfl rfl Ql ?_ | refine Ask.callA ent7 (fun h => c0) rfl rfl Ql ?_ | refine LK.callA ent8 (c1) rfl rfl (SbL.refl _) ?_ | refine Ask.callA ent8 (fun h => c1) rfl rfl (SbL.refl _) ?_ | refine LK.callA ent8 (c1) rfl rfl Ql ?_ | refine Ask.callA ent8 (fun h => c1) rfl rfl Ql ?_ | refine LK.callA ent13 (c2) rfl rfl (SbL.refl _) ?_ | refine Ask.callA ent13 (fun h => c2) rfl rfl (SbL.refl _) ?_ | refine LK.callA ent13 (c2) rfl rfl Ql ?_ | refine Ask.callA ent13 (fun h => c2) rfl rfl Ql ?_ | refine LK.callA ent11 (k1) rfl rfl (SbL.refl _) ?_ | refine Ask.callA ent11 (fun h => k1) rfl rfl (SbL.refl _) ?_ | refine LK.callA ent11 (k1) rfl rfl Ql ?_ | refine Ask.callA ent11 (fun h => k1) rfl rfl Ql ?_ | refine LK.callA ent14 (k2) rfl rfl (SbL.refl _) ?_ | refine Ask.callA ent14 (fun h => k2) rfl rfl (SbL.refl _) ?_ | refine LK.callA ent14 (k2) rfl rfl Ql ?_ | refine Ask.callA ent14 (fun h => k2) rfl rfl Ql ?_ | refine lB (T := tab) ?_ | refine lBA (T := tab) ?_ | refine LK.askW rfl ?_ | refine s1 ?_ | refine sA ?_ | refine CK.any false Qk ?_ | fail))
      all_goals (conv => whnf)
      all_goals (refine Fin.pure (congrArg B ?_))
      all_goals grind
    · rw [Bool.eq_false_iff.2 hs2] at c2
      refine fn_run (T := tab) Tryz.func4 rfl Tryz.ntmps4 rfl Tryz.results4 (fun _ => ?_)
      repeat' ((conv => whnf) <;> (first | refine Must.mk (fun h => h) ?_ | refine Must.mk (fun _ => rfl) ?_ | refine Must.mk Qw ?_ | refine MW.ok Qw ?_ | intro _ | exact Fin.pure rfl | refine Fin.pure ?_ | refine Br.tt ?_ | refine Br.ff ?_ | (refine Br.mk (fun h => ?_) (fun h => ?_) <;> (try simp only [sh] at h) <;> (try first | (exfalso; omega) | exact absurd trivial h | (exfalso; simp at h; done))) | refine Ix.at ‹_› Qw ?_ | refine Ix.mapN Qw ?_ | refine Ix.mapN1 Qw ?_ | refine Ix.map Qw ?_ | refine Ix.at Qi Qw ?_ | refine LK.callA ent7 (c0) rfl rfl (SbL.refl _) ?_ | refine Ask.callA ent7 (fun h => c0) rfl rfl (SbL.refl _) ?_ | refine LK.callA ent7 (c0) rfl rfl Ql ?_ | refine Ask.callA ent7 (fun h => c0) rfl rfl Ql ?_ | refine LK.callA ent8 (c1) rfl rfl (SbL.refl _) ?_ | refine Ask.callA ent8 (fun h => c1) rfl rfl (SbL.refl _) ?_ | refine LK.callA ent8 (c1) rfl rfl Ql ?_ | refine Ask.callA ent8 (fun h => c1) rfl rfl Ql ?_ | refine LK.callA ent13 (c2) rfl rfl (SbL.refl _) ?_ | refine Ask.callA ent13 (fun h => c2) rfl rfl (SbL.refl _) ?_ | refine LK.callA ent13 (c2) rfl rfl Ql ?_ | refine Ask.callA ent13 (fun h => c2) rfl rfl Ql ?_ | refine lB (T := tab) ?_ | refine lBA (T := tab) ?_ | refine LK.askW rfl ?_ | refine s1 ?_ | refine sA ?_ | refine CK.any false Qk ?_ | fail))
  · rw [Bool.eq_false_iff.2 hs] at c1
    refine fn_run (T := tab) Tryz.func4 rfl Tryz.ntmps4 rfl Tryz.results4 (fun _ => ?_)
    repeat' ((conv => whnf) <;> (first | refine Must.mk (fun h => h) ?_ | refine Must.mk (fun _ => rfl) ?_ | refine Must.mk Qw ?_ | refine MW.ok Qw ?_ | intro _ | exact Fin.pure rfl | refine Fin.pure ?_ | refine Br.tt ?_ | refine Br.ff ?_ | (refine Br.mk (fun h => ?_) (fun h => ?_) <;> (try simp only [sh] at h) <;> (try first | (exfalso; omega) | exact absurd trivial h | (exfalso; simp at h; done))) | refine Ix.at ‹_› Qw ?_ | refine Ix.mapN Qw ?_ | refine Ix.mapN1 Qw ?_ | refine Ix.map Qw ?_ | refine Ix.at Qi Qw ?_ | refine LK.callA ent7 (c0) rfl rfl (SbL.refl _) ?_ | refine Ask.callA ent7 (fun h => c0) rfl rfl (SbL.refl _) ?_ | refine LK.callA ent7 (c0) rfl rfl Ql ?_ | refine Ask.callA ent7 (fun h => c0) rfl rfl Ql ?_ | refine LK.callA ent8 (c1) rfl rfl (SbL.refl _) ?_ | refine Ask.callA ent8 (fun h => c1) rfl rfl (SbL.refl _) ?_ | refine LK.callA ent8 (c1) rfl rfl Ql ?_ | refine Ask.callA ent8 (fun h => c1) rfl rfl Ql ?_ | refine LK.callA ent13 (c2) rfl rfl (SbL.refl _) ?_ | refine Ask.callA ent13 (fun h => c2) rfl rfl (SbL.refl _) ?_ | refine LK.callA ent13 (c2) rfl rfl Ql ?_ | refine Ask.callA ent13 (fun h => c2) rfl rfl Ql ?_ | refine lB (T := tab) ?_ | refine lBA (T := tab) ?_ | refine LK.askW rfl ?_ | refine s1 ?_ | refine sA ?_ | refine CK.any false Qk ?_ | fail))
theorem step_at {p : Pl} {bd : Int} {log : List Sg} {k : Nat} (hv : validP p = true) (hk : k < log.length) (hl : log.length ≤ 20000) : stepB p bd log k = follB p bd log k := by
  unfold stepB
  rw [Int.toNat_natCast, hv, decide_eq_true hl, decide_eq_true (by omega : (0 : Int) ≤ k), decide_eq_true (by omega : (k : Int) < (log.length : Int))]
  rfl
theorem Ix.mapNs {w : Bool} {i : Nat} {k : AV → Prop} {α : Type} [Inhabited α] {f : α → AV} {ys : List α} {s : α} (hs : ys.getD i default = s) (h : w = true → i < ys.length) (hk : k (f s)) : Ix w (ys.map f) (i : Int) k := .mapN h (by rw [hs]; exact hk)
theorem any_succ {α : Type} [Inhabited α] {f : α → Bool} {l : List α} {i : Nat} (h : i < l.length) : (l.take (i + 1)).any f = ((l.take i).any f || f (l.getD i default)) := by
  rw [take_snoc h, List.any_append]
  simp
set_option maxRecDepth 4000 in
set_option maxHeartbeats 4000000 in
theorem dSteps_all (p : Pl) (bd : Int) (log : List Sg) (ro : List Int) (hz : PlZ p) (hl : LogZ log) (hr : ro.length ≤ 9223372036854775807) :
    FnA Tryz.prog 5 [.agg (pcs p), I bd, .sl 3 (log.map sgav), .sl 1 (ro.map I)] (B true) := by
  have c0 := dHead_ok
  have c1 := dSmall_ok p log hz hl
  have c2 := vSmall_ok p ro 9 hz.ch hz.wk hr hz.aw
  by_cases hs : smallG p log = true
  · have h60 : log.length ≤ 60 := by
      unfold smallG at hs
      rw [Bool.and_eq_true_iff] at hs
      have := (shortB_iff.1 hs.2).1
      omega
    obtain ⟨h1, h2⟩ := smallG_s hs
    rw [hs] at c1
    by_cases hs2 : smallV p ro 9 = true
    · rw [hs2] at c2
      have k2 := dComplete_ok p ro bd h1 (smallV_ro hs2)
      have hr2 := smallV_ro hs2
      by_cases hc : cmpB p ro bd = true
      · have hC := cmpB_c hc
        rw [hc] at k2
        have hlg : (log.map sgav).length = log.length := by simp
        have hlr : (ro.map I).length = ro.length := by simp
        refine fn_run (T := tab) Tryz.func5 rfl Tryz.ntmps5 rfl Tryz.results5 (fun _ => ?_)
        repeat' ((conv => whnf) <;> (first | refine Must.mk (fun h => h) ?_ | refine Must.mk (fun _ => rfl) ?_ | refine Must.mk Qw ?_ | refine MW.ok Qw ?_ | intro _ | exact Fin.pure rfl | refine Br.tt ?_ | refine Br.ff ?_ | (refine Br.mk (fun h => ?_) (fun h => ?_) <;> (try simp only [sh] at h) <;> (try first | (exfalso; omega) | exact absurd trivial h | (exfalso; simp at h; done))) | refine Ix.at ‹_› Qw ?_ | refine Ix.mapN Qw ?_ | refine Ix.mapN1 Qw ?_ | refine Ix.map Qw ?_ | refine Ix.at Qi Qw ?_ | refine LK.callA ent7 (c0) rfl rfl (SbL.refl _) ?_ | refine Ask.callA ent7 (fun h => c0) rfl rfl (SbL.refl _) ?_ | refine LK.callA ent7 (c0) rfl rfl Ql ?_ | refine Ask.callA ent7 (fun h => c0) rfl rfl Ql ?_ | refine LK.callA ent8 (c1) rfl rfl (SbL.refl _) ?_ | refine Ask.callA ent8 (fun h => c1) rfl rfl (SbL.refl _) ?_ | refine LK.callA ent8 (c1) rfl rfl Ql ?_ | refine Ask.callA ent8 (fun h => c1) rfl rfl Ql ?_ | refine LK.callA ent13 (c2) rfl rfl (SbL.refl _) ?_ | refine Ask.callA ent13 (fun h => c2) rfl rfl (SbL.refl _) ?_ | refine LK.callA ent13 (c2) rfl rfl Ql ?_ | refine Ask.callA ent13 (fun h => c2) rfl rfl Ql ?_ | refine LK.callA ent14 (k2) rfl rfl (SbL.refl _) ?_ | refine Ask.callA ent14 (fun h => k2) rfl rfl (SbL.refl _) ?_ | refine LK.callA ent14 (k2) rfl rfl Ql ?_ | refine Ask.callA ent14 (fun h => k2) rfl rfl Ql ?_ | refine lB (T := tab) ?_ | refine lBA (T := tab) ?_ | refine LK.askW rfl ?_ | refine s1 ?_ | refine sA ?_ | refine CK.any false Qk ?_ | fail))
        (conv => whnf); refine CK.loop [8, 10, 11, 13, 33, 34, 35, 36, 37, 38, 39, 40, 41, 42, 43, 44, 45, 46, 47, 48, 49, 50, 51, 52, 53, 54, 55, 56, 57, 58, 59, 60, 61, 62, 63, 64, 65, 66, 67, 68, 69, 70, 71, 72, 73, 74, 75, 76, 77, 78, 79, 80, 81, 82, 83, 84] (σ := Nat) (fun i => i ≤ log.length ∧ ∀ j, j < i → follB p bd log j = true) (fun i => [(10, I i)]) (fun _ => _) (fun i => log.length - i) 0 ⟨Nat.zero_le _, fun j hj => absurd hj (Nat.not_lt_zero _)⟩ Qy (List.Sublist.refl _) ?_
        conv => whnf
        rintro i ⟨i1, i2⟩
        by_cases hi : i < log.length
        · have k1 := uStep_ok p bd log (i : Int) h1 h2
          rw [step_at hC.v hi (by omega)] at k1
          have hcl := (h2.cl _ (gAt hi)).1
          generalize hsg : log.getD i default = s at *
          have hlc : (s.cl.map ltav).length = s.cl.length := by simp
          by_cases hf : follB p bd log i = true
          · have hall : ∀ j, j < i + 1 → follB p bd log j = true := fun j hj => by
              rcases Nat.lt_or_eq_of_le (Nat.lt_succ_iff.1 hj) with h | rfl
              · exact i2 j h
              · exact hf
            have hh := foll_sound hC (i + 1) i (by omega) hall
            rw [hsg] at hh
            rw [hf] at k1
            repeat' ((conv => whnf) <;> (first | refine Ix.mapNs hsg Qw ?_ | refine Must.mk (fun h => h) ?_ | refine Must.mk (fun _ => rfl) ?_ | refine Must.mk Qw ?_ | refine MW.ok Qw ?_ | intro _ | exact Fin.pure rfl | refine Br.tt ?_ | refine Br.ff ?_ | (refine Br.mk (fun h => ?_) (fun h => ?_) <;> (try simp only [sh] at h) <;> (try first | (exfalso; omega) | exact absurd trivial h | (exfalso; simp at h; done))) | refine Ix.at ‹_› Qw ?_ | refine Ix.mapN Qw ?_ | refine Ix.mapN1 Qw ?_ | refine Ix.map Qw ?_ | refine Ix.at Qi Qw ?_ | refine LK.callA ent9 (k1) rfl rfl (SbL.refl _) ?_ | refine Ask.callA ent9 (fun h => k1) rfl rfl (SbL.refl _) ?_ | refine LK.callA ent9 (k1) rfl rfl Ql ?_ | refine Ask.callA ent9 (fun h => k1) rfl rfl Ql ?_ | refine lB (T := tab) ?_ | refine lBA (T := tab) ?_ | refine LK.askW rfl ?_ | refine s1 ?_ | refine sA ?_ | refine CK.any false Qk ?_ | fail))
            (conv => whnf); refine CK.loop [11, 13, 52, 53, 54, 55, 56, 57, 58, 59, 60, 61, 62, 63, 64, 65, 66, 67, 68, 69, 70, 71, 72, 73, 74, 75, 76, 77, 78, 79, 80, 81, 82] (σ := Nat × Bool) (fun q => q.1 ≤ s.cl.length ∧ q.2 = (s.cl.take q.1).any (trueL ro)) (fun ⟨j, b⟩ => [(52, I j), (11, B b)]) (fun _ => _) (fun q => s.cl.length - q.1) (0, false) ⟨Nat.zero_le _, rfl⟩ Qy (List.Sublist.refl _) ?_
            conv => whnf
            rintro ⟨j, b⟩ ⟨j1, j2⟩
            simp only at j1 j2
            by_cases hj : j < s.cl.length
            · repeat' ((conv => whnf) <;> (first | refine Ix.mapNs hsg Qw ?_ | refine Must.mk (fun h => h) ?_ | refine Must.mk (fun _ => rfl) ?_ | refine Must.mk Qw ?_ | refine MW.ok Qw ?_ | intro _ | exact Fin.pure rfl | refine Br.tt ?_ | refine Br.ff ?_ | (refine Br.mk (fun h => ?_) (fun h => ?_) <;> (try simp only [sh] at h) <;> (try first | (exfalso; omega) | exact absurd trivial h | (exfalso; simp at h; done))) | refine Ix.at ‹_› Qw ?_ | refine Ix.mapN Qw ?_ | refine Ix.mapN1 Qw ?_ | refine Ix.map Qw ?_ | refine Ix.at Qi Qw ?_ | refine lB (T := tab) ?_ | refine lBA (T := tab) ?_ | refine LK.askW rfl ?_ | refine s1 ?_ | refine sA ?_ | refine CK.any false Qk ?_ | fail))
              (conv => whnf); (refine Nxt.of ((j + 1, _)) [11, 13, 52, 53, 54, 55, 56, 57, 58, 59, 60, 61, 62, 63, 64, 65, 66, 67, 68, 69, 70, 71, 72, 73, 74, 75, 76, 77, 78, 79, 80, 81, 82] Qr Qr Qr ?_ ?_ Qy Qs <;> (try dsimp only) <;> (try omega))
              exact ⟨hj, by rw [any_succ hj, j2]; unfold trueL; rw [hlr]⟩
            · rw [List.take_of_length_le (by omega)] at j2
              have hh2 : s.cl.any (trueL ro) = true := hh
              rw [hh2] at j2
              subst j2
              repeat' ((conv => whnf) <;> (first | refine Must.mk (fun h => h) ?_ | refine Must.mk (fun _ => rfl) ?_ | refine Must.mk Qw ?_ | refine MW.ok Qw ?_ | intro _ | exact Fin.pure rfl | refine Br.tt ?_ | refine Br.ff ?_ | (refine Br.mk (fun h => ?_) (fun h => ?_) <;> (try simp only [sh] at h) <;> (try first | (exfalso; omega) | exact absurd trivial h | (exfalso; simp at h; done))) | refine Ix.at ‹_› Qw ?_ | refine Ix.mapN Qw ?_ | refine Ix.mapN1 Qw ?_ | refine Ix.map Qw ?_ | refine Ix.at Qi Qw ?_ | refine lB (T := tab) ?_ | refine lBA (T := tab) ?_ | refine LK.askW rfl ?_ | refine s1 ?_ | refine sA ?_ | refine CK.any false Qk ?_ | fail))
              (conv => whnf); (refine Nxt.of (i + 1) [8, 10, 11, 13, 33, 34, 35, 36, 37, 38, 39, 40, 41, 42, 43, 44, 45, 46, 47, 48, 49, 50, 51, 52, 53, 54, 55, 56, 57, 58, 59, 60, 61, 62, 63, 64, 65, 66, 67, 68, 69, 70, 71, 72, 73, 74, 75, 76, 77, 78, 79, 80, 81, 82, 83, 84] Qr Qr Qr ?_ ?_ Qy Qs <;> (try dsimp only) <;> (try omega))
              exact ⟨hi, hall⟩
          · rw [Bool.eq_false_iff.2 hf] at k1
            repeat' ((conv => whnf) <;> (first | refine Must.mk (fun h => h) ?_ | refine Must.mk (fun _ => rfl) ?_ | refine Must.mk Qw ?_ | refine MW.ok Qw ?_ | intro _ | exact Fin.pure rfl | refine Fin.pure ?_ | refine Br.tt ?_ | refine Br.ff ?_ | (refine Br.mk (fun h => ?_) (fun h => ?_) <;> (try simp only [sh] at h) <;> (try first | (exfalso; omega) | exact absurd trivial h | (exfalso; simp at h; done))) | refine Ix.at ‹_› Qw ?_ | refine Ix.mapN Qw ?_ | refine Ix.mapN1 Qw ?_ | refine Ix.map Qw ?_ | refine Ix.at Qi Qw ?_ | refine LK.callA ent9 (k1) rfl rfl (SbL.refl _) ?_ | refine Ask.callA ent9 (fun h => k1) rfl rfl (SbL.refl _) ?_ | refine LK.callA ent9 (k1) rfl rfl Ql ?_ | refine Ask.callA ent9 (fun h => k1) rfl rfl Ql ?_ | refine lB (T := tab) ?_ | refine lBA (T := tab) ?_ | refine LK.askW rfl ?_ | refine s1 ?_ | refine sA ?_ | refine CK.any false Qk ?_ | fail))
        · repeat' ((conv => whnf) <;> (first | refine Must.mk (fun h => h) ?_ | refine Must.mk (fun _ => rfl) ?_ | refine Must.mk Qw ?_ | refine MW.ok Qw ?_ | intro _ | exact Fin.pure rfl | refine Fin.pure ?_ | refine Br.tt ?_ | refine Br.ff ?_ | (refine Br.mk (fun h => ?_) (fun h => ?_) <;> (try simp only [sh] at h) <;> (try first | (exfalso; omega) | exact absurd trivial h | (exfalso; simp at h; done))) | refine Ix.at ‹_› Qw ?_ | refine Ix.mapN Qw ?_ | refine Ix.mapN1 Qw ?_ | refine Ix.map Qw ?_ | refine Ix.at Qi Qw ?_ | refine lB (T := tab) ?_ | refine lBA (T := tab) ?_ | refine LK.askW rfl ?_ | refine s1 ?_ | refine sA ?_ | refine CK.any false Qk ?_ | fail))
      · rw [Bool.eq_false_iff.2 hc] at k2
        refine fn_run (T := tab) Tryz.func5 rfl Tryz.ntmps5 rfl Tryz.results5 (fun _ => ?_)
        repeat' ((conv => whnf) <;> (first | refine Must.mk (fun h => h) ?_ | refine Must.mk (fun _ => rfl) ?_ | refine Must.mk Qw ?_ | refine MW.ok Qw ?_ | intro _ | exact Fin.pure rfl | refine Fin.pure ?_ | refine Br.tt ?_ | refine Br.ff ?_ | (refine Br.mk (fun h => ?_) (fun h => ?_) <;> (try simp only [sh] at h) <;> (try first | (exfalso; omega) | exact absurd trivial h | (exfalso; simp at h; done))) | refine Ix.at ‹_› Qw ?_ | refine Ix.mapN Qw ?_ | refine Ix.mapN1 Qw ?_ | refine Ix.map Qw ?_ | refine Ix.at Qi Qw ?_ | refine LK.callA ent7 (c0) rfl rfl (SbL.refl _) ?_ | refine Ask.callA ent7 (fun h => c0) rfl rfl (SbL.refl _) ?_ | refine LK.callA ent7 (c0) rfl rfl Ql ?_ | refine Ask.callA ent7 (fun h => c0) rfl rfl Ql ?_ | refine LK.callA ent8 (c1) rfl rfl (SbL.refl _) ?_ | refine Ask.callA ent8 (fun h => c1) rfl rfl (SbL.refl _) ?_ | refine LK.callA ent8 (c1) rfl rfl Ql ?_ | refine Ask.callA ent8 (fun h => c1) rfl rfl Ql ?_ | refine LK.callA ent13 (c2) rfl rfl (SbL.refl _) ?_ | refine Ask.callA ent13 (fun h => c2) rfl rfl (SbL.refl _) ?_ | refine LK.callA ent13 (c2) rfl rfl Ql ?_ | refine Ask.callA ent13 (fun h => c2) rfl rfl Ql ?_ | refine LK.callA ent14 (k2) rfl rfl (SbL.refl _) ?_ | refine Ask.callA ent14 (fun h => k2) rfl rfl (SbL.refl _) ?_ | refine LK.callA ent14 (k2) rfl rfl Ql ?_ | refine Ask.callA ent14 (fun h => k2) rfl rfl Ql ?_ | refine lB (T := tab) ?_ | refine lBA (T := tab) ?_ | refine LK.askW rfl ?_ | refine s1 ?_ | refine sA ?_ | refine CK.any false Qk ?_ | fail))
    · rw [Bool.eq_false_iff.2 hs2] at c2
      refine fn_run (T := tab) Tryz.func5 rfl Tryz.ntmps5 rfl Tryz.results5 (fun _ => ?_)
      repeat' ((conv => whnf) <;> (first | refine Ask.callA (r := B false) ent14 (fun h => by simp at h) rfl rfl (SbL.refl _) ?_ | refine Must.mk (fun h => h) ?_ | refine Must.mk (fun _ => rfl) ?_ | refine Must.mk Qw ?_ | refine MW.ok Qw ?_ | intro _ | exact Fin.pure rfl | refine Fin.pure ?_ | refine Br.tt ?_ | refine Br.ff ?_ | (refine Br.mk (fun h => ?_) (fun h => ?_) <;> (try simp only [sh] at h) <;> (try first | (exfalso; omega) | exact absurd trivial h | (exfalso; simp at h; done))) | refine Ix.at ‹_› Qw ?_ | refine Ix.mapN Qw ?_ | refine Ix.mapN1 Qw ?_ | refine Ix.map Qw ?_ | refine Ix.at Qi Qw ?_ | refine LK.callA ent7 (c0) rfl rfl (SbL.refl _) ?_ | refine Ask.callA ent7 (fun h => c0) rfl rfl (SbL.refl _) ?_ | refine LK.callA ent7 (c0) rfl rfl Ql ?_ | refine Ask.callA ent7 (fun h => c0) rfl rfl Ql ?_ | refine LK.callA ent8 (c1) rfl rfl (SbL.refl _) ?_ | refine Ask.callA ent8 (fun h => c1) rfl rfl (SbL.refl _) ?_ | refine LK.callA ent8 (c1) rfl rfl Ql ?_ | refine Ask.callA ent8 (fun h => c1) rfl rfl Ql ?_ | refine LK.callA ent13 (c2) rfl rfl (SbL.refl _) ?_ | refine Ask.callA ent13 (fun h => c2) rfl rfl (SbL.refl _) ?_ | refine LK.callA ent13 (c2) rfl rfl Ql ?_ | refine Ask.callA ent13 (fun h => c2) rfl rfl Ql ?_ | refine lB (T := tab) ?_ | refine lBA (T := tab) ?_ | refine LK.askW rfl ?_ | refine s1 ?_ | refine sA ?_ | refine CK.any false Qk ?_ | fail))
  · rw [Bool.eq_false_iff.2 hs] at c1
    refine fn_run (T := tab) Tryz.func5 rfl Tryz.ntmps5 rfl Tryz.results5 (fun _ => ?_)
    repeat' ((conv => whnf) <;> (first | refine Ask.callA (r := B false) ent14 (fun h => by simp at h) rfl rfl (SbL.refl _) ?_ | refine Must.mk (fun h => h) ?_ | refine Must.mk (fun _ => rfl) ?_ | refine Must.mk Qw ?_ | refine MW.ok Qw ?_ | intro _ | exact Fin.pure rfl | refine Fin.pure ?_ | refine Br.tt ?_ | refine Br.ff ?_ | (refine Br.mk (fun h => ?_) (fun h => ?_) <;> (try simp only [sh] at h) <;> (try first | (exfalso; omega) | exact absurd trivial h | (exfalso; simp at h; done))) | refine Ix.at ‹_› Qw ?_ | refine Ix.mapN Qw ?_ | refine Ix.mapN1 Qw ?_ | refine Ix.map Qw ?_ | refine Ix.at Qi Qw ?_ | refine LK.callA ent7 (c0) rfl rfl (SbL.refl _) ?_ | refine Ask.callA ent7 (fun h => c0) rfl rfl (SbL.refl _) ?_ | refine LK.callA ent7 (c0) rfl rfl Ql ?_ | refine Ask.callA ent7 (fun h => c0) rfl rfl Ql ?_ | refine LK.callA ent8 (c1) rfl rfl (SbL.refl _) ?_ | refine Ask.callA ent8 (fun h => c1) rfl rfl (SbL.refl _) ?_ | refine LK.callA ent8 (c1) rfl rfl Ql ?_ | refine Ask.callA ent8 (fun h => c1) rfl rfl Ql ?_ | refine LK.callA ent13 (c2) rfl rfl (SbL.refl _) ?_ | refine Ask.callA ent13 (fun h => c2) rfl rfl (SbL.refl _) ?_ | refine LK.callA ent13 (c2) rfl rfl Ql ?_ | refine Ask.callA ent13 (fun h => c2) rfl rfl Ql ?_ | refine lB (T := tab) ?_ | refine lBA (T := tab) ?_ | refine LK.askW rfl ?_ | refine s1 ?_ | refine sA ?_ | refine CK.any false Qk ?_ | fail))
end Go.Proofs.YthjllgabmgkocaaGreat
