/-
  Walks: RefutePrefixes.
  Conditions: those of each theorem.
-/
import Derived.Test.YthjllgabmgkocaaRGA
namespace Go.Proofs.Ythjllgabmgkocaa
open Go.E2 Go.Wage
theorem dl8 {ts : List TypeId} {ds : List Dt} (h : DtL Try.prog ts ds) : DtL Try.prog (5 :: ts) (.int .u8 :: ds) := .cons (.int Try.underlying5) (by kernel_rfl) (of_decide_eq_true (by kernel_rfl)) h
theorem u8_of {n : Int} (h : (Lit.int .u8 n).wf = true) : 0 ≤ n ∧ n ≤ 255 := by
  simpa [Lit.wf, IntKind.min, IntKind.max, IntKind.signed, IntKind.bits] using h
theorem getD_take {α : Type} [Inhabited α] {l : List α} {n j : Nat} (h : j < n) : (l.take n).getD j default = l.getD j default := by
  simp [List.getD, h]
theorem unitF_take {log : List Sg} {n : Nat} : ∀ {ks : List Int} {held : List Lt}, (∀ j ∈ ks, 0 ≤ j ∧ j < (n : Int)) → unitF (log.take n) ks held = unitF log ks held
  | [], _, _ => rfl
  | k :: ks, held, h => by
    have h1 := h k (by simp)
    rw [unitF, unitF, getD_take (by omega), unitF_take fun j hj => h j (by simp [hj])]
theorem foll_take {p : Pl} {bd : Int} {log : List Sg} {k : Nat} : follB p bd (log.take (k + 1)) k = follB p bd log k := by
  unfold follB
  rw [getD_take (by omega)]
  congr 1
  unfold ruleB
  have hu : unitB (log.take (k + 1)) k (log.getD k default) = unitB log k (log.getD k default) := by
    unfold unitB
    cases h : (log.getD k default).frm.all fun j => decide (0 ≤ j) && decide (j < (k : Int)) with
    | false => rfl
    | true =>
      rw [List.all_eq_true] at h
      rw [unitF_take fun j hj => by have := h j hj; simp only [Bool.and_eq_true, decide_eq_true_eq] at this; omega]
  rw [hu]
theorem step_take {p : Pl} {bd : Int} {log : List Sg} {k : Nat} (hk : k < log.length) (hl : log.length ≤ 20000) : stepB p bd (log.take (k + 1)) k = stepB p bd log k := by
  unfold stepB
  rw [Int.toNat_natCast, foll_take, List.length_take, Nat.min_eq_left (by omega), decide_eq_true (by omega), decide_eq_true (by omega : (k : Int) < ((k + 1 : Nat) : Int)), decide_eq_true hl, decide_eq_true (by omega : (k : Int) < (log.length : Int))]
theorem step_foll {p : Pl} {bd : Int} {log : List Sg} {k : Nat} (hk : k < log.length) (hl : log.length ≤ 20000) : stepB p bd log k = (validP p && follB p bd log k) := by
  unfold stepB
  rw [Int.toNat_natCast, decide_eq_true hl, decide_eq_true (by omega : (0 : Int) ≤ k), decide_eq_true (by omega : (k : Int) < (log.length : Int)), Bool.and_true, Bool.and_true, Bool.and_true]
def allS (p : Pl) (bd : Int) (log : List Sg) (n : Nat) : Bool := decide ((log.getD (log.length - 1) default).cl.length = 0) && (List.range n).all fun k => stepB p bd log k
theorem allS_succ {p : Pl} {bd : Int} {log : List Sg} {n : Nat} : allS p bd log (n + 1) = (allS p bd log n && stepB p bd log n) := by
  unfold allS
  rw [List.range_succ, List.all_append, List.all_cons, List.all_nil, Bool.and_true, Bool.and_assoc]
theorem check_all {p : Pl} {bd : Int} {log : List Sg} (h0 : 0 < log.length) (hl : log.length ≤ 20000) : checkB p bd log = allS p bd log log.length := by
  unfold checkB allS
  rw [decide_eq_true (by omega : 1 ≤ log.length), decide_eq_true hl, Bool.and_true, Bool.and_true]
  have : (List.range log.length).all (fun k => stepB p bd log (k : Nat)) = (validP p && (List.range log.length).all (follB p bd log)) := by
    rw [Bool.eq_iff_iff]
    simp only [List.all_eq_true, List.mem_range, Bool.and_eq_true]
    constructor
    · intro h
      exact ⟨by have := h 0 h0; rw [step_foll h0 hl, Bool.and_eq_true_iff] at this; exact this.1, fun k hk => by have := h k hk; rw [step_foll hk hl, Bool.and_eq_true_iff] at this; exact this.2⟩
    · rintro ⟨h1, h2⟩ k hk
      rw [step_foll hk hl, Bool.and_eq_true_iff]
      exact ⟨h1, h2 k hk⟩
  rw [this, Bool.and_comm]
theorem take_logS {log : List Sg} {n : Nat} (h : LogS log) : LogS (log.take n) :=
  ⟨by have := h.l; rw [List.length_take]; omega, fun s hs => h.cl s (List.mem_of_mem_take hs)⟩
theorem step_takeI {p : Pl} {bd : Int} {log : List Sg} {k : Int} (h0 : 0 ≤ k) (hk : k < log.length) (hl : log.length ≤ 20000) : stepB p bd (log.take (k + 1).toNat) k = stepB p bd log k := by
  obtain ⟨n, rfl⟩ := Int.eq_ofNat_of_zero_le h0
  exact step_take (by omega) hl
set_option maxRecDepth 4000 in
set_option maxHeartbeats 4000000 in
theorem dPrefixes_all (p : Pl) (bd : Int) (log : List Sg) (x : Int) (hz : PlZ p) (hl : LogZ log) (hx : 0 ≤ x ∧ x ≤ 255) :
    FnA Try.prog 4 [.agg (pcs p), I bd, .sl 3 (log.map sgav), .v (.int .u8 x)] (B true) := by
  have c0 := dHead_ok
  have c1 := dSmall_ok p log hz hl
  have hlg : (log.map sgav).length = log.length := by simp
  by_cases hs : smallG p log = true
  · obtain ⟨h1, h2⟩ := smallG_s hs
    have h60 := (shortB_iff.1 (Bool.and_eq_true_iff.1 hs).2).1
    rw [hs] at c1
    have k1 := uCheck_ok p bd log h1 h2
    by_cases h0 : 0 < log.length
    · have hL : log.length ≤ 20000 := by omega
      have hk0 : 0 ≤ x % ((log.map sgav).length : Int) := Int.emod_nonneg _ (by omega)
      have hk1 : x % ((log.map sgav).length : Int) < ((log.map sgav).length : Int) := Int.emod_lt_of_pos _ (by omega)
      have s1 := uStep_ok p bd log (x % ((log.map sgav).length : Int)) h1 h2
      have s2 := uStep_ok p bd (log.take (x % ((log.map sgav).length : Int) + 1).toNat) (x % ((log.map sgav).length : Int)) h1 (take_logS h2)
      rw [step_takeI hk0 (by omega) hL, List.map_take] at s2
      have ini : decide ((((log.getD (((log.map sgav).length : Int) - 1).toNat default).cl.map ltav).length : Int) = 0) = allS p bd log 0 := by
        have e : (((log.map sgav).length : Int) - 1).toNat = log.length - 1 := by omega
        rw [e, List.length_map]
        unfold allS
        rw [List.range_zero, List.all_nil, Bool.and_true, decide_eq_decide]
        omega
      refine fn_run (T := tab) Try.func4 rfl Try.ntmps4 rfl Try.results4 (fun _ => ?_)
      repeat' ((conv => whnf) <;> (first | refine Must.mk (fun h => h) ?_ | refine Must.mk (fun _ => rfl) ?_ | refine Must.mk Qw ?_ | refine MW.ok Qw ?_ | intro _ | exact Fin.pure rfl | refine Br.tt ?_ | refine Br.ff ?_ | (refine Br.mk (fun h => ?_) (fun h => ?_) <;> (try simp only [sh] at h) <;> (try first | (exfalso; omega) | exact absurd trivial h | (exfalso; simp at h; done))) | refine Ix.at ‹_› Qw ?_ | refine Ix.mapN Qw ?_ | refine Ix.mapN1 Qw ?_ | refine Ix.map Qw ?_ | refine Ix.at Qi Qw ?_ | refine Rem.nn Qw ?_ | refine Rem.t Qw ?_ | refine LK.callA ent6 (c0) rfl rfl (SbL.refl _) ?_ | refine Ask.callA ent6 (fun h => c0) rfl rfl (SbL.refl _) ?_ | refine LK.callA ent6 (c0) rfl rfl Ql ?_ | refine Ask.callA ent6 (fun h => c0) rfl rfl Ql ?_ | refine LK.callA ent7 (c1) rfl rfl (SbL.refl _) ?_ | refine Ask.callA ent7 (fun h => c1) rfl rfl (SbL.refl _) ?_ | refine LK.callA ent7 (c1) rfl rfl Ql ?_ | refine Ask.callA ent7 (fun h => c1) rfl rfl Ql ?_ | refine LK.callA ent9 (s2) rfl rfl (SbL.refl _) ?_ | refine Ask.callA ent9 (fun h => s2) rfl rfl (SbL.refl _) ?_ | refine LK.callA ent9 (s2) rfl rfl Ql ?_ | refine Ask.callA ent9 (fun h => s2) rfl rfl Ql ?_ | refine LK.callA ent9 (s1) rfl rfl (SbL.refl _) ?_ | refine Ask.callA ent9 (fun h => s1) rfl rfl (SbL.refl _) ?_ | refine LK.callA ent9 (s1) rfl rfl Ql ?_ | refine Ask.callA ent9 (fun h => s1) rfl rfl Ql ?_ | refine lB (T := tab) ?_ | refine lBA (T := tab) ?_ | refine LK.askW rfl ?_ | refine s1 ?_ | refine sA ?_ | refine CK.any false Qk ?_ | fail))
      (conv => whnf); refine CK.loop [11, 12, 65, 66, 67, 68, 69, 70, 71, 72, 73, 74, 75, 76, 77, 78] (σ := Nat × Bool) (fun q => q.1 ≤ log.length ∧ q.2 = allS p bd log q.1) (fun ⟨k, a⟩ => [(12, I k), (11, B a)]) (fun _ => _) (fun q => log.length - q.1) (0, decide ((((log.getD (((log.map sgav).length : Int) - 1).toNat default).cl.map ltav).length : Int) = 0)) ⟨Nat.zero_le _, ini⟩ Qy (List.Sublist.refl _) ?_
      conv => whnf
      rintro ⟨k, a⟩ ⟨i1, i2⟩
      simp only at i1 i2
      by_cases hk : k < log.length
      · repeat' ((conv => whnf) <;> (first | (refine Nxt.of ((k + 1, a && stepB p bd log k)) [11, 12, 65, 66, 67, 68, 69, 70, 71, 72, 73, 74, 75, 76, 77, 78] Qr Qr Qr ?_ ?_ Qy Qs <;> (try dsimp only) <;> (try omega)) | refine Must.mk (fun h => h) ?_ | refine Must.mk (fun _ => rfl) ?_ | refine Must.mk Qw ?_ | refine MW.ok Qw ?_ | intro _ | exact Fin.pure rfl | refine Fin.pure ?_ | refine Br.tt ?_ | refine Br.ff ?_ | (refine Br.mk (fun h => ?_) (fun h => ?_) <;> (try simp only [sh] at h) <;> (try first | (exfalso; omega) | exact absurd trivial h | (exfalso; simp at h; done))) | refine Ix.at ‹_› Qw ?_ | refine Ix.mapN Qw ?_ | refine Ix.mapN1 Qw ?_ | refine Ix.map Qw ?_ | refine Ix.at Qi Qw ?_ | refine Rem.nn Qw ?_ | refine Rem.t Qw ?_ | refine LK.callA ent9 (uStep_ok p bd log k h1 h2) rfl rfl (SbL.refl _) ?_ | refine Ask.callA ent9 (fun h => uStep_ok p bd log k h1 h2) rfl rfl (SbL.refl _) ?_ | refine LK.callA ent9 (uStep_ok p bd log k h1 h2) rfl rfl Ql ?_ | refine Ask.callA ent9 (fun h => uStep_ok p bd log k h1 h2) rfl rfl Ql ?_ | refine lB (T := tab) ?_ | refine lBA (T := tab) ?_ | refine LK.askW rfl ?_ | refine s1 ?_ | refine sA ?_ | refine CK.any false Qk ?_ | fail))
        exact ⟨hk, by rw [i2, allS_succ]⟩
      · obtain rfl : k = log.length := by omega
        rw [check_all h0 hL, ← i2] at k1
        repeat' ((conv => whnf) <;> (first | refine Must.mk (fun h => h) ?_ | refine Must.mk (fun _ => rfl) ?_ | refine Must.mk Qw ?_ | refine MW.ok Qw ?_ | intro _ | exact Fin.pure rfl | refine Br.tt ?_ | refine Br.ff ?_ | (refine Br.mk (fun h => ?_) (fun h => ?_) <;> (try simp only [sh] at h) <;> (try first | (exfalso; omega) | exact absurd trivial h | (exfalso; simp at h; done))) | refine Ix.at ‹_› Qw ?_ | refine Ix.mapN Qw ?_ | refine Ix.mapN1 Qw ?_ | refine Ix.map Qw ?_ | refine Ix.at Qi Qw ?_ | refine Rem.nn Qw ?_ | refine Rem.t Qw ?_ | refine LK.callA ent8 (k1) rfl rfl (SbL.refl _) ?_ | refine Ask.callA ent8 (fun h => k1) rfl rfl (SbL.refl _) ?_ | refine LK.callA ent8 (k1) rfl rfl Ql ?_ | refine Ask.callA ent8 (fun h => k1) rfl rfl Ql ?_ | refine lB (T := tab) ?_ | refine lBA (T := tab) ?_ | refine LK.askW rfl ?_ | refine s1 ?_ | refine sA ?_ | refine CK.any false Qk ?_ | fail))
        conv => whnf
        refine Fin.pure (congrArg B ?_)
        simp
    · have hn : log = [] := List.eq_nil_of_length_eq_zero (by omega)
      subst hn
      have hc : checkB p bd [] = false := by unfold checkB; simp
      rw [hc] at k1
      refine fn_run (T := tab) Try.func4 rfl Try.ntmps4 rfl Try.results4 (fun _ => ?_)
      repeat' ((conv => whnf) <;> (first | refine Must.mk (fun h => h) ?_ | refine Must.mk (fun _ => rfl) ?_ | refine Must.mk Qw ?_ | refine MW.ok Qw ?_ | intro _ | exact Fin.pure rfl | refine Fin.pure ?_ | refine Br.tt ?_ | refine Br.ff ?_ | (refine Br.mk (fun h => ?_) (fun h => ?_) <;> (try simp only [sh] at h) <;> (try first | (exfalso; omega) | exact absurd trivial h | (exfalso; simp at h; done))) | refine Ix.at ‹_› Qw ?_ | refine Ix.mapN Qw ?_ | refine Ix.mapN1 Qw ?_ | refine Ix.map Qw ?_ | refine Ix.at Qi Qw ?_ | refine Rem.nn Qw ?_ | refine Rem.t Qw ?_ | refine LK.callA ent6 (c0) rfl rfl (SbL.refl _) ?_ | refine Ask.callA ent6 (fun h => c0) rfl rfl (SbL.refl _) ?_ | refine LK.callA ent6 (c0) rfl rfl Ql ?_ | refine Ask.callA ent6 (fun h => c0) rfl rfl Ql ?_ | refine LK.callA ent7 (c1) rfl rfl (SbL.refl _) ?_ | refine Ask.callA ent7 (fun h => c1) rfl rfl (SbL.refl _) ?_ | refine LK.callA ent7 (c1) rfl rfl Ql ?_ | refine Ask.callA ent7 (fun h => c1) rfl rfl Ql ?_ | refine LK.callA ent8 (k1) rfl rfl (SbL.refl _) ?_ | refine Ask.callA ent8 (fun h => k1) rfl rfl (SbL.refl _) ?_ | refine LK.callA ent8 (k1) rfl rfl Ql ?_ | refine Ask.callA ent8 (fun h => k1) rfl rfl Ql ?_ | refine lB (T := tab) ?_ | refine lBA (T := tab) ?_ | refine LK.askW rfl ?_ | refine s1 ?_ | refine sA ?_ | refine CK.any false Qk ?_ | fail))
  · rw [Bool.eq_false_iff.2 hs] at c1
    refine fn_run (T := tab) Try.func4 rfl Try.ntmps4 rfl Try.results4 (fun _ => ?_)
    repeat' ((conv => whnf) <;> (first | refine Must.mk (fun h => h) ?_ | refine Must.mk (fun _ => rfl) ?_ | refine Must.mk Qw ?_ | refine MW.ok Qw ?_ | intro _ | exact Fin.pure rfl | refine Fin.pure ?_ | refine Br.tt ?_ | refine Br.ff ?_ | (refine Br.mk (fun h => ?_) (fun h => ?_) <;> (try simp only [sh] at h) <;> (try first | (exfalso; omega) | exact absurd trivial h | (exfalso; simp at h; done))) | refine Ix.at ‹_› Qw ?_ | refine Ix.mapN Qw ?_ | refine Ix.mapN1 Qw ?_ | refine Ix.map Qw ?_ | refine Ix.at Qi Qw ?_ | refine Rem.nn Qw ?_ | refine Rem.t Qw ?_ | refine LK.callA ent6 (c0) rfl rfl (SbL.refl _) ?_ | refine Ask.callA ent6 (fun h => c0) rfl rfl (SbL.refl _) ?_ | refine LK.callA ent6 (c0) rfl rfl Ql ?_ | refine Ask.callA ent6 (fun h => c0) rfl rfl Ql ?_ | refine LK.callA ent7 (c1) rfl rfl (SbL.refl _) ?_ | refine Ask.callA ent7 (fun h => c1) rfl rfl (SbL.refl _) ?_ | refine LK.callA ent7 (c1) rfl rfl Ql ?_ | refine Ask.callA ent7 (fun h => c1) rfl rfl Ql ?_ | refine LK.callA ent8 ((nomatch h : FnA Try.prog 8 [.agg (pcs p), I bd, .sl 3 (log.map sgav)] (B true))) rfl rfl (SbL.refl _) ?_ | refine Ask.callA ent8 (fun h => (nomatch h : FnA Try.prog 8 [.agg (pcs p), I bd, .sl 3 (log.map sgav)] (B true))) rfl rfl (SbL.refl _) ?_ | refine LK.callA ent8 ((nomatch h : FnA Try.prog 8 [.agg (pcs p), I bd, .sl 3 (log.map sgav)] (B true))) rfl rfl Ql ?_ | refine Ask.callA ent8 (fun h => (nomatch h : FnA Try.prog 8 [.agg (pcs p), I bd, .sl 3 (log.map sgav)] (B true))) rfl rfl Ql ?_ | refine lB (T := tab) ?_ | refine lBA (T := tab) ?_ | refine LK.askW rfl ?_ | refine s1 ?_ | refine sA ?_ | refine CK.any false Qk ?_ | fail))
end Go.Proofs.Ythjllgabmgkocaa
