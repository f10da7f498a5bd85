/-
  Walks: package roster: Cost; the reference's Small and Same; the examples.
  Conditions: those of each theorem.
-/
import Derived.Test.YtlnokdkhglmogaaGreatRO8
namespace Go.Proofs.YtlnokdkhglmogaaGreat
open Go.E2 Go.Wage
def termC (p : Pl) (w : Int) (d : Du) : Int := if 0 ≤ w then (p.workers.getD w.toNat default).wage * (d.to_ - d.frm) else 0
theorem costP_snoc (p : Pl) (w : Int) (d : Du) : ∀ {a : List Int} {b : List Du}, a.length = b.length → costP p (a ++ [w]) (b ++ [d]) = costP p a b + termC p w d
  | [], [], _ => by simp [costP, termC]
  | x :: a, y :: b, h => by
    have ih := costP_snoc p w d (a := a) (b := b) (by simpa using h)
    simp only [List.cons_append, costP, ih]
    omega
  | [], _ :: _, h => by simp at h
  | _ :: _, [], h => by simp at h
theorem termC_bd {p : Pl} (hv : validP p = true) {w : Int} {d : Du} (hw : w < p.workers.length) (hd : dutyOk p d = true) : 0 ≤ termC p w d ∧ termC p w d ≤ 1440000000 := by
  unfold termC
  split
  · rename_i h
    have h1 := (wkOk_iff.1 (List.all_eq_true.1 (validP_iff.1 hv).2.2.2.2.1 _ (getD_mem (k := w.toNat) (l := p.workers) (by omega)))).2.1
    unfold inB at h1
    simp only [decide_eq_true_eq] at h1
    unfold dutyOk at hd
    have h2 := duB_bd (Bool.and_eq_true_iff.1 hd).1
    have h3 := Int.mul_nonneg h1.1 (show 0 ≤ d.to_ - d.frm by omega)
    have h4 := Int.mul_le_mul h1.2 (show d.to_ - d.frm ≤ 1440 by omega) (by omega) (by omega)
    omega
  · omega
theorem oCost_ok (p : Pl) (ro : List Int) (hs : Small p) : FnA Tryz.prog 15 [.agg (pcs p), .sl 1 (ro.map I)] (.tup [I (if okRo p ro then costP p ro p.duties else 0), I (if okRo p ro then 0 else 1)]) := by
  have c1 := oValid_ok p hs
  have c2 := oIsRo_ok p ro hs
  have hsd := hs.du
  have hsw := hs.wk
  have hld : (p.duties.map duav).length = p.duties.length := by simp
  have hlw : (p.workers.map wkav).length = p.workers.length := by simp
  have hlr : (ro.map I).length = ro.length := by simp
  by_cases hk : okRo p ro = true
  · have hk2 := hk
    unfold okRo at hk2
    rw [Bool.and_eq_true_iff] at hk2
    have hr := isRo_iff.1 hk2.2
    refine fn_run (T := tab) Tryz.func15 rfl Tryz.ntmps15 rfl Tryz.results15 (fun _ => ?_)
    repeat' ((conv => whnf) <;> (first | refine Must.mk (fun h => h) ?_ | refine Must.mk (fun _ => rfl) ?_ | refine Must.mk Qw ?_ | refine MW.ok Qw ?_ | intro _ | exact Fin.pure rfl | refine Br.tt ?_ | refine Br.ff ?_ | (refine Br.mk (fun h => ?_) (fun h => ?_) <;> (try simp only [sh] at h) <;> (try first | (exfalso; omega) | exact absurd trivial h | (exfalso; simp at h; done))) | refine Ix.at ‹_› Qw ?_ | refine Ix.mapN Qw ?_ | refine Ix.mapN1 Qw ?_ | refine Ix.map Qw ?_ | refine Ix.at Qi Qw ?_ | refine LK.callA ent17 (c1) rfl rfl (SbL.refl _) ?_ | refine Ask.callA ent17 (fun h => c1) rfl rfl (SbL.refl _) ?_ | refine LK.callA ent17 (c1) rfl rfl Ql ?_ | refine Ask.callA ent17 (fun h => c1) rfl rfl Ql ?_ | refine LK.callA ent25 (c2) rfl rfl (SbL.refl _) ?_ | refine Ask.callA ent25 (fun h => c2) rfl rfl (SbL.refl _) ?_ | refine LK.callA ent25 (c2) rfl rfl Ql ?_ | refine Ask.callA ent25 (fun h => c2) rfl rfl Ql ?_ | refine lB (T := tab) ?_ | refine lBA (T := tab) ?_ | refine rA (T := tab) ?_ | refine r1 (T := tab) ?_ | refine LK.askW rfl ?_ | refine s1 ?_ | refine sA ?_ | refine CK.any false Qk ?_ | fail))
    · rw [hk2.1, hk2.2] at h
      simp at h
    repeat' ((conv => whnf) <;> (first | refine Must.mk (fun h => h) ?_ | refine Must.mk (fun _ => rfl) ?_ | refine Must.mk Qw ?_ | refine MW.ok Qw ?_ | intro _ | exact Fin.pure rfl | refine Fin.pure ?_ | refine Br.tt ?_ | refine Br.ff ?_ | (refine Br.mk (fun h => ?_) (fun h => ?_) <;> (try simp only [sh] at h) <;> (try first | (exfalso; omega) | exact absurd trivial h | (exfalso; simp at h; done))) | refine Ix.at ‹_› Qw ?_ | refine Ix.mapN Qw ?_ | refine Ix.mapN1 Qw ?_ | refine Ix.map Qw ?_ | refine Ix.at Qi Qw ?_ | refine lB (T := tab) ?_ | refine lBA (T := tab) ?_ | refine rA (T := tab) ?_ | refine r1 (T := tab) ?_ | refine LK.askW rfl ?_ | refine s1 ?_ | refine sA ?_ | refine CK.any false Qk ?_ | fail))
    (conv => whnf); refine CK.loop [6, 7, 8, 20, 21, 22, 23, 24, 25, 26, 27, 28, 29, 30, 31, 32, 33, 34, 35, 36, 37, 38, 39, 40, 41, 42, 43, 44, 45, 46, 47, 48, 49] (σ := Nat × Int) (fun s => s.1 ≤ ro.length ∧ s.2 = costP p (ro.take s.1) (p.duties.take s.1) ∧ 0 ≤ s.2 ∧ s.2 ≤ 1440000000 * s.1) (fun ⟨k, c⟩ => [(20, I k), (6, I c)]) (fun _ => _) (fun s => ro.length - s.1) (0, 0) ⟨Nat.zero_le _, by simp [costP], by simp, by simp⟩ Qy (List.Sublist.refl _) ?_
    conv => whnf
    rintro ⟨k, c⟩ ⟨i1, i2, i3, i4⟩
    simp only at i1 i2 i3 i4
    by_cases hlt : k < ro.length
    · have hw := hr.2 _ (getD_mem hlt)
      have hdk := List.all_eq_true.1 (validP_iff.1 hk2.1).2.2.2.1 _ (getD_mem (l := p.duties) (k := k) (by omega))
      have ht := termC_bd hk2.1 hw.2 hdk
      have hdk2 := hdk
      unfold dutyOk at hdk2
      have hdb := duB_bd (Bool.and_eq_true_iff.1 hdk2).1
      have hst : costP p (ro.take (k + 1)) (p.duties.take (k + 1)) = costP p (ro.take k) (p.duties.take k) + termC p (ro.getD k default) (p.duties.getD k default) := by
        rw [List.take_succ_eq_append_getElem hlt, List.take_succ_eq_append_getElem (show k < p.duties.length by omega), costP_snoc p _ _ (by simp; omega), getD_at hlt, getD_at (show k < p.duties.length by omega)]
      unfold termC at ht hst
      by_cases h0 : 0 ≤ ro.getD k default
      · rw [if_pos h0] at ht hst
        repeat' ((conv => whnf) <;> (first | (refine Nxt.of ((k + 1, _)) [6, 7, 8, 20, 21, 22, 23, 24, 25, 26, 27, 28, 29, 30, 31, 32, 33, 34, 35, 36, 37, 38, 39, 40, 41, 42, 43, 44, 45, 46, 47, 48, 49] Qr Qr Qr ?_ ?_ Qy Qs <;> (try dsimp only) <;> (try omega)) | refine Must.mk (fun h => h) ?_ | refine Must.mk (fun _ => rfl) ?_ | refine Must.mk Qw ?_ | refine MW.ok Qw ?_ | intro _ | exact Fin.pure rfl | refine Fin.pure ?_ | refine Br.tt ?_ | refine Br.ff ?_ | (refine Br.mk (fun h => ?_) (fun h => ?_) <;> (try simp only [sh] at h) <;> (try first | (exfalso; omega) | exact absurd trivial h | (exfalso; simp at h; done))) | refine Ix.at ‹_› Qw ?_ | refine Ix.mapN Qw ?_ | refine Ix.mapN1 Qw ?_ | refine Ix.map Qw ?_ | refine Ix.at Qi Qw ?_ | refine lB (T := tab) ?_ | refine lBA (T := tab) ?_ | refine rA (T := tab) ?_ | refine r1 (T := tab) ?_ | refine LK.askW rfl ?_ | refine s1 ?_ | refine sA ?_ | refine CK.any false Qk ?_ | fail))
      · rw [if_neg h0] at ht hst
        repeat' ((conv => whnf) <;> (first | (refine Nxt.of ((k + 1, c)) [6, 7, 8, 20, 21, 22, 23, 24, 25, 26, 27, 28, 29, 30, 31, 32, 33, 34, 35, 36, 37, 38, 39, 40, 41, 42, 43, 44, 45, 46, 47, 48, 49] Qr Qr Qr ?_ ?_ Qy Qs <;> (try dsimp only) <;> (try omega)) | refine Must.mk (fun h => h) ?_ | refine Must.mk (fun _ => rfl) ?_ | refine Must.mk Qw ?_ | refine MW.ok Qw ?_ | intro _ | exact Fin.pure rfl | refine Fin.pure ?_ | refine Br.tt ?_ | refine Br.ff ?_ | (refine Br.mk (fun h => ?_) (fun h => ?_) <;> (try simp only [sh] at h) <;> (try first | (exfalso; omega) | exact absurd trivial h | (exfalso; simp at h; done))) | refine Ix.at ‹_› Qw ?_ | refine Ix.mapN Qw ?_ | refine Ix.mapN1 Qw ?_ | refine Ix.map Qw ?_ | refine Ix.at Qi Qw ?_ | refine lB (T := tab) ?_ | refine lBA (T := tab) ?_ | refine rA (T := tab) ?_ | refine r1 (T := tab) ?_ | refine LK.askW rfl ?_ | refine s1 ?_ | refine sA ?_ | refine CK.any false Qk ?_ | fail))
    · have e1 : ro.take k = ro := List.take_of_length_le (by omega)
      have e2 : p.duties.take k = p.duties := List.take_of_length_le (by omega)
      rw [e1, e2] at i2
      repeat' ((conv => whnf) <;> (first | refine Must.mk (fun h => h) ?_ | refine Must.mk (fun _ => rfl) ?_ | refine Must.mk Qw ?_ | refine MW.ok Qw ?_ | intro _ | exact Fin.pure rfl | refine Fin.pure ?_ | refine Br.tt ?_ | refine Br.ff ?_ | (refine Br.mk (fun h => ?_) (fun h => ?_) <;> (try simp only [sh] at h) <;> (try first | (exfalso; omega) | exact absurd trivial h | (exfalso; simp at h; done))) | refine Ix.at ‹_› Qw ?_ | refine Ix.mapN Qw ?_ | refine Ix.mapN1 Qw ?_ | refine Ix.map Qw ?_ | refine Ix.at Qi Qw ?_ | refine lB (T := tab) ?_ | refine lBA (T := tab) ?_ | refine rA (T := tab) ?_ | refine r1 (T := tab) ?_ | refine LK.askW rfl ?_ | refine s1 ?_ | refine sA ?_ | refine CK.any false Qk ?_ | fail))
      rw [if_pos hk, if_pos hk, i2]
  · rw [if_neg hk, if_neg hk]
    have hk2 : ¬ (validP p = true ∧ isRo p ro = true) := by
      unfold okRo at hk
      rwa [Bool.and_eq_true_iff] at hk
    refine fn_run (T := tab) Tryz.func15 rfl Tryz.ntmps15 rfl Tryz.results15 (fun _ => ?_)
    repeat' ((conv => whnf) <;> (first | refine Must.mk (fun h => h) ?_ | refine Must.mk (fun _ => rfl) ?_ | refine Must.mk Qw ?_ | refine MW.ok Qw ?_ | intro _ | exact Fin.pure rfl | refine Fin.pure ?_ | refine Br.tt ?_ | refine Br.ff ?_ | (refine Br.mk (fun h => ?_) (fun h => ?_) <;> (try simp only [sh] at h) <;> (try first | (exfalso; omega) | exact absurd trivial h | (exfalso; simp at h; done))) | refine Ix.at ‹_› Qw ?_ | refine Ix.mapN Qw ?_ | refine Ix.mapN1 Qw ?_ | refine Ix.map Qw ?_ | refine Ix.at Qi Qw ?_ | refine LK.callA ent17 (c1) rfl rfl (SbL.refl _) ?_ | refine Ask.callA ent17 (fun h => c1) rfl rfl (SbL.refl _) ?_ | refine LK.callA ent17 (c1) rfl rfl Ql ?_ | refine Ask.callA ent17 (fun h => c1) rfl rfl Ql ?_ | refine LK.callA ent25 (c2) rfl rfl (SbL.refl _) ?_ | refine Ask.callA ent25 (fun h => c2) rfl rfl (SbL.refl _) ?_ | refine LK.callA ent25 (c2) rfl rfl Ql ?_ | refine Ask.callA ent25 (fun h => c2) rfl rfl Ql ?_ | refine lB (T := tab) ?_ | refine lBA (T := tab) ?_ | refine rA (T := tab) ?_ | refine r1 (T := tab) ?_ | refine LK.askW rfl ?_ | refine s1 ?_ | refine sA ?_ | refine CK.any false Qk ?_ | fail))
    exact absurd h hk2
theorem vSame_ok (a b : List Vi) (ha : a.length ≤ 1000000000) : FnA Tryz.prog 19 [.sl 4 (a.map viav), .sl 4 (b.map viav)] (B (decide (a = b))) := by
  have hla : (a.map viav).length = a.length := by simp
  have hlb : (b.map viav).length = b.length := by simp
  by_cases hl : a.length = b.length
  · refine fn_run (T := tab) Tryz.func19 rfl Tryz.ntmps19 rfl Tryz.results19 (fun _ => ?_)
    repeat' ((conv => whnf) <;> (first | refine Must.mk (fun h => h) ?_ | refine Must.mk (fun _ => rfl) ?_ | refine Must.mk Qw ?_ | refine MW.ok Qw ?_ | intro _ | exact Fin.pure rfl | refine Fin.pure ?_ | refine Br.tt ?_ | refine Br.ff ?_ | (refine Br.mk (fun h => ?_) (fun h => ?_) <;> (try simp only [sh] at h) <;> (try first | (exfalso; omega) | exact absurd trivial h | (exfalso; simp at h; done))) | refine Ix.at ‹_› Qw ?_ | refine Ix.mapN Qw ?_ | refine Ix.mapN1 Qw ?_ | refine Ix.map Qw ?_ | refine Ix.at Qi Qw ?_ | refine lB (T := tab) ?_ | refine lBA (T := tab) ?_ | refine rA (T := tab) ?_ | refine r1 (T := tab) ?_ | refine LK.askW rfl ?_ | refine s1 ?_ | refine sA ?_ | refine CK.any false Qk ?_ | fail))
    (conv => whnf); refine CK.loop [4, 5, 11, 12, 13, 14, 15, 16, 17, 18, 19, 20, 21, 22, 23, 24, 25] (σ := Nat) (fun k => k ≤ a.length ∧ a.take k = b.take k) (fun k => [(5, I k)]) (fun _ => []) (fun k => a.length - k) 0 ⟨Nat.zero_le _, rfl⟩ Qy (List.nil_sublist _) ?_
    conv => whnf
    rintro k ⟨i1, i2⟩
    by_cases hk : k < a.length
    · repeat' ((conv => whnf) <;> (first | (refine Nxt.of (k + 1) [4, 5, 11, 12, 13, 14, 15, 16, 17, 18, 19, 20, 21, 22, 23, 24, 25] Qr Qr Qr ?_ ?_ Qy Qs <;> (try dsimp only) <;> (try omega)) | refine Must.mk (fun h => h) ?_ | refine Must.mk (fun _ => rfl) ?_ | refine Must.mk Qw ?_ | refine MW.ok Qw ?_ | intro _ | exact Fin.pure rfl | refine Fin.pure ?_ | refine Br.tt ?_ | refine Br.ff ?_ | (refine Br.mk (fun h => ?_) (fun h => ?_) <;> (try simp only [sh] at h) <;> (try first | (exfalso; omega) | exact absurd trivial h | (exfalso; simp at h; done))) | refine Ix.at ‹_› Qw ?_ | refine Ix.mapN Qw ?_ | refine Ix.mapN1 Qw ?_ | refine Ix.map Qw ?_ | refine Ix.at Qi Qw ?_ | refine Ask.of (Gr.eqlS rfl rfl rfl rfl (eqs49 _ _ _ _ _ _ _ _)) ?_ | refine Ask.of (Gr.neqS rfl rfl rfl rfl (eqs49 _ _ _ _ _ _ _ _)) ?_ | refine Ask.of (Gr.eqlS rfl rfl rfl rfl (eqs28 _ _ _ _)) ?_ | refine Ask.of (Gr.neqS rfl rfl rfl rfl (eqs28 _ _ _ _)) ?_ | refine Ask.of (Gr.eqlS rfl rfl rfl rfl (eqs138 _ _ _ _)) ?_ | refine Ask.of (Gr.neqS rfl rfl rfl rfl (eqs138 _ _ _ _)) ?_ | refine lB (T := tab) ?_ | refine lBA (T := tab) ?_ | refine rA (T := tab) ?_ | refine r1 (T := tab) ?_ | refine LK.askW rfl ?_ | refine s1 ?_ | refine sA ?_ | refine CK.any false Qk ?_ | fail))
      · refine congrArg B (decide_eq_false ?_).symm
        rintro rfl
        simp at h
      · refine ⟨hk, take_next hk (by omega) i2 (Vi.ext4 h.1 h.2.1 h.2.2.1 h.2.2.2)⟩
    · repeat' ((conv => whnf) <;> (first | refine Must.mk (fun h => h) ?_ | refine Must.mk (fun _ => rfl) ?_ | refine Must.mk Qw ?_ | refine MW.ok Qw ?_ | intro _ | exact Fin.pure rfl | refine Fin.pure ?_ | refine Br.tt ?_ | refine Br.ff ?_ | (refine Br.mk (fun h => ?_) (fun h => ?_) <;> (try simp only [sh] at h) <;> (try first | (exfalso; omega) | exact absurd trivial h | (exfalso; simp at h; done))) | refine Ix.at ‹_› Qw ?_ | refine Ix.mapN Qw ?_ | refine Ix.mapN1 Qw ?_ | refine Ix.map Qw ?_ | refine Ix.at Qi Qw ?_ | refine lB (T := tab) ?_ | refine lBA (T := tab) ?_ | refine rA (T := tab) ?_ | refine r1 (T := tab) ?_ | refine LK.askW rfl ?_ | refine s1 ?_ | refine sA ?_ | refine CK.any false Qk ?_ | fail))
      refine congrArg B (decide_eq_true ?_).symm
      rwa [List.take_of_length_le (by omega), List.take_of_length_le (by omega)] at i2
  · have e : decide (a = b) = false := decide_eq_false (by rintro rfl; exact hl rfl)
    rw [e]
    refine fn_run (T := tab) Tryz.func19 rfl Tryz.ntmps19 rfl Tryz.results19 (fun _ => ?_)
    repeat' ((conv => whnf) <;> (first | refine Must.mk (fun h => h) ?_ | refine Must.mk (fun _ => rfl) ?_ | refine Must.mk Qw ?_ | refine MW.ok Qw ?_ | intro _ | exact Fin.pure rfl | refine Fin.pure ?_ | refine Br.tt ?_ | refine Br.ff ?_ | (refine Br.mk (fun h => ?_) (fun h => ?_) <;> (try simp only [sh] at h) <;> (try first | (exfalso; omega) | exact absurd trivial h | (exfalso; simp at h; done))) | refine Ix.at ‹_› Qw ?_ | refine Ix.mapN Qw ?_ | refine Ix.mapN1 Qw ?_ | refine Ix.map Qw ?_ | refine Ix.at Qi Qw ?_ | refine lB (T := tab) ?_ | refine lBA (T := tab) ?_ | refine rA (T := tab) ?_ | refine r1 (T := tab) ?_ | refine LK.askW rfl ?_ | refine s1 ?_ | refine sA ?_ | refine CK.any false Qk ?_ | fail))
def smallV (p : Pl) (ro : List Int) (most : Int) : Bool := decide (p.duties.length ≤ most) && decide (ro.length ≤ 40) && decide (p.workers.length ≤ 20) && decide (p.zone.chs.length ≤ 70) && p.workers.all fun w => decide (w.away.length ≤ 420)
theorem smallV_iff {p : Pl} {ro : List Int} {most : Int} : smallV p ro most = true ↔ p.duties.length ≤ most ∧ ro.length ≤ 40 ∧ p.workers.length ≤ 20 ∧ p.zone.chs.length ≤ 70 ∧ ∀ w ∈ p.workers, w.away.length ≤ 420 := by
  unfold smallV
  simp only [Bool.and_eq_true, decide_eq_true_eq, List.all_eq_true]
  exact ⟨fun h => ⟨h.1.1.1.1, h.1.1.1.2, h.1.1.2, h.1.2, h.2⟩, fun h => ⟨⟨⟨⟨h.1, h.2.1⟩, h.2.2.1⟩, h.2.2.2.1⟩, h.2.2.2.2⟩⟩
set_option maxHeartbeats 4000000 in
theorem vSmall_ok (p : Pl) (ro : List Int) (most : Int) (hz : p.zone.chs.length ≤ 9223372036854775807) (hw : p.workers.length ≤ 9223372036854775807) (hr : ro.length ≤ 9223372036854775807) (ha : ∀ w ∈ p.workers, w.away.length ≤ 9223372036854775807) : FnA Tryz.prog 12 [.agg (pcs p), .sl 1 (ro.map I), I most] (B (smallV p ro most)) := by
  have hlz : (p.zone.chs.map chav).length = p.zone.chs.length := by simp
  have hld : (p.duties.map duav).length = p.duties.length := by simp
  have hlw : (p.workers.map wkav).length = p.workers.length := by simp
  have hlr : (ro.map I).length = ro.length := by simp
  have hno : ¬ smallV p ro most = true → (AV.v (.bool false)) = B (smallV p ro most) := fun h => congrArg B (Bool.eq_false_iff.2 h).symm
  refine fn_run (T := tab) Tryz.func12 rfl Tryz.ntmps12 rfl Tryz.results12 (fun _ => ?_)
  repeat' ((conv => whnf) <;> (first | refine Must.mk (fun h => h) ?_ | refine Must.mk (fun _ => rfl) ?_ | refine Must.mk Qw ?_ | refine MW.ok Qw ?_ | intro _ | exact Fin.pure rfl | refine Fin.pure ?_ | refine Br.tt ?_ | refine Br.ff ?_ | (refine Br.mk (fun h => ?_) (fun h => ?_) <;> (try simp only [sh] at h) <;> (try first | (exfalso; omega) | exact absurd trivial h | (exfalso; simp at h; done))) | refine Ix.at ‹_› Qw ?_ | refine Ix.mapN Qw ?_ | refine Ix.mapN1 Qw ?_ | refine Ix.map Qw ?_ | refine Ix.at Qi Qw ?_ | refine lB (T := tab) ?_ | refine lBA (T := tab) ?_ | refine rA (T := tab) ?_ | refine r1 (T := tab) ?_ | refine LK.askW rfl ?_ | refine s1 ?_ | refine sA ?_ | refine CK.any false Qk ?_ | fail))
  · exact hno fun hp => by have := smallV_iff.1 hp; omega
  repeat' ((conv => whnf) <;> (first | refine Must.mk (fun h => h) ?_ | refine Must.mk (fun _ => rfl) ?_ | refine Must.mk Qw ?_ | refine MW.ok Qw ?_ | intro _ | exact Fin.pure rfl | refine Fin.pure ?_ | refine Br.tt ?_ | refine Br.ff ?_ | (refine Br.mk (fun h => ?_) (fun h => ?_) <;> (try simp only [sh] at h) <;> (try first | (exfalso; omega) | exact absurd trivial h | (exfalso; simp at h; done))) | refine Ix.at ‹_› Qw ?_ | refine Ix.mapN Qw ?_ | refine Ix.mapN1 Qw ?_ | refine Ix.map Qw ?_ | refine Ix.at Qi Qw ?_ | refine lB (T := tab) ?_ | refine lBA (T := tab) ?_ | refine rA (T := tab) ?_ | refine r1 (T := tab) ?_ | refine LK.askW rfl ?_ | refine s1 ?_ | refine sA ?_ | refine CK.any false Qk ?_ | fail))
  (conv => whnf); refine CK.loop [6, 7, 31, 32, 33, 34, 35, 36, 37, 38, 39, 40, 41, 42, 43, 44, 45] (σ := Nat) (fun k => k ≤ p.workers.length ∧ ∀ w ∈ p.workers.take k, w.away.length ≤ 420) (fun k => [(7, I k)]) (fun _ => _) (fun k => p.workers.length - k) 0 ⟨Nat.zero_le _, by simp⟩ Qy (List.Sublist.refl _) ?_
  conv => whnf
  rintro k ⟨i1, i2⟩
  by_cases hk : k < p.workers.length
  · have hak := ha _ (getD_mem hk)
    have hla : ((p.workers.getD k default).away.map spav).length = (p.workers.getD k default).away.length := by simp
    repeat' ((conv => whnf) <;> (first | (refine Nxt.of (k + 1) [6, 7, 31, 32, 33, 34, 35, 36, 37, 38, 39, 40, 41, 42, 43, 44, 45] Qr Qr Qr ?_ ?_ Qy Qs <;> (try dsimp only) <;> (try omega)) | refine Must.mk (fun h => h) ?_ | refine Must.mk (fun _ => rfl) ?_ | refine Must.mk Qw ?_ | refine MW.ok Qw ?_ | intro _ | exact Fin.pure rfl | refine Fin.pure ?_ | refine Br.tt ?_ | refine Br.ff ?_ | (refine Br.mk (fun h => ?_) (fun h => ?_) <;> (try simp only [sh] at h) <;> (try first | (exfalso; omega) | exact absurd trivial h | (exfalso; simp at h; done))) | refine Ix.at ‹_› Qw ?_ | refine Ix.mapN Qw ?_ | refine Ix.mapN1 Qw ?_ | refine Ix.map Qw ?_ | refine Ix.at Qi Qw ?_ | refine lB (T := tab) ?_ | refine lBA (T := tab) ?_ | refine rA (T := tab) ?_ | refine r1 (T := tab) ?_ | refine LK.askW rfl ?_ | refine s1 ?_ | refine sA ?_ | refine CK.any false Qk ?_ | fail))
    · exact hno fun hp => by have := (smallV_iff.1 hp).2.2.2.2 _ (getD_mem hk); omega
    · refine ⟨hk, fun w hw => ?_⟩
      rw [List.take_succ_eq_append_getElem hk, List.mem_append, ← getD_at hk, List.mem_singleton] at hw
      rcases hw with hw | rfl
      · exact i2 w hw
      · omega
  · repeat' ((conv => whnf) <;> (first | refine Must.mk (fun h => h) ?_ | refine Must.mk (fun _ => rfl) ?_ | refine Must.mk Qw ?_ | refine MW.ok Qw ?_ | intro _ | exact Fin.pure rfl | refine Fin.pure ?_ | refine Br.tt ?_ | refine Br.ff ?_ | (refine Br.mk (fun h => ?_) (fun h => ?_) <;> (try simp only [sh] at h) <;> (try first | (exfalso; omega) | exact absurd trivial h | (exfalso; simp at h; done))) | refine Ix.at ‹_› Qw ?_ | refine Ix.mapN Qw ?_ | refine Ix.mapN1 Qw ?_ | refine Ix.map Qw ?_ | refine Ix.at Qi Qw ?_ | refine lB (T := tab) ?_ | refine lBA (T := tab) ?_ | refine rA (T := tab) ?_ | refine r1 (T := tab) ?_ | refine LK.askW rfl ?_ | refine s1 ?_ | refine sA ?_ | refine CK.any false Qk ?_ | fail))
    rw [List.take_of_length_le (by omega)] at i2
    exact congrArg B (smallV_iff.2 ⟨by omega, by omega, by omega, by omega, i2⟩).symm
def benchP : Pl := ⟨⟨ByteArray.empty, 0, []⟩, [⟨480, 960, 1⟩, ⟨1000, 1400, 1⟩, ⟨1920, 2400, 1⟩], [⟨⟨#[97, 110, 110]⟩, 1, false, 100, []⟩, ⟨⟨#[98, 111, 98]⟩, 1, true, 60, []⟩], ⟨600, 1000, (1320, 300), 450⟩⟩
theorem bench_valid : validP benchP = true := by decide +kernel
theorem bench_bad0 : okRo benchP [0, -1, 0] = true ∧ badP benchP [0, -1, 0] = [] := by decide +kernel
theorem bench_bad1 : okRo benchP [0, 0, 0] = true ∧ badP benchP [0, 0, 0] = [⟨3, 0, 0, 1⟩, ⟨3, 0, 1, 2⟩, ⟨4, 0, 0, -1⟩] := by decide +kernel
theorem bench_bad2 : okRo benchP [1, -1, -1] = true ∧ badP benchP [1, -1, -1] = [⟨6, 1, 0, -1⟩] := by decide +kernel
theorem bench_bad3 : okRo benchP [-1, 1, -1] = true ∧ badP benchP [-1, 1, -1] = [⟨5, 1, 1, -1⟩] := by decide +kernel
theorem bench_no : okRo benchP [0, 0] = false ∧ okRo benchP [0, 0, 2] = false := by decide +kernel
theorem bench_cost : costP benchP [0, -1, 0] benchP.duties = 96000 ∧ costP benchP [0, 0, 0] benchP.duties = 136000 := by decide +kernel
theorem bench_small : Small benchP := ⟨by decide, by decide, by decide, by decide⟩
set_option maxHeartbeats 4000000 in
theorem xBench_ok : FnA Tryz.prog 22 [] (.agg (pcs benchP)) := by
  refine fn_run (T := tab) Tryz.func22 rfl Tryz.ntmps22 rfl Tryz.results22 (fun _ => ?_)
  repeat' ((conv => whnf) <;> (first | refine LK.see 6 rfl (Sb.agg (.cons (.refl _) (.cons (.refl _) (.cons (.refl _) (.cons (.refl _) (.cons (Sb.nil (k := 2)) .nil)))))) ?_ | refine LK.see 5 rfl (Sb.agg (.cons (.refl _) (.cons (.refl _) (.cons (.refl _) (.cons (.refl _) (.cons (Sb.nil (k := 2)) .nil)))))) ?_ | refine Must.mk (fun h => h) ?_ | refine Must.mk (fun _ => rfl) ?_ | refine Must.mk Qw ?_ | refine MW.ok Qw ?_ | intro _ | exact Fin.pure rfl | refine Br.tt ?_ | refine Br.ff ?_ | (refine Br.mk (fun h => ?_) (fun h => ?_) <;> (try simp only [sh] at h) <;> (try first | (exfalso; omega) | exact absurd trivial h | (exfalso; simp at h; done))) | refine Ix.at ‹_› Qw ?_ | refine Ix.mapN Qw ?_ | refine Ix.mapN1 Qw ?_ | refine Ix.map Qw ?_ | refine Ix.at Qi Qw ?_ | refine lB (T := tab) ?_ | refine lBA (T := tab) ?_ | refine rA (T := tab) ?_ | refine r1 (T := tab) ?_ | refine LK.askW rfl ?_ | refine s1 ?_ | refine sA ?_ | refine LK.gr (Gr.bslV (T := tab) rfl rfl rfl rfl) ?_ | refine Ask.of (Gr.bslV (T := tab) rfl rfl rfl rfl) ?_ | refine CK.any false Qk ?_ | refine CK.any true Qk ?_ | fail))
  conv => whnf
  exact Fin.seeP (Sb.agg (.cons (.refl _) (.cons (.refl _) (.cons (Sb.nil (k := 2)) (SbL.refl _)))))
theorem xHas_ok (ro : List Int) (want : List Vi) (b : Bool) (hk : okRo benchP ro = true) (hb : decide (badP benchP ro = want) = b) (hl : (badP benchP ro).length ≤ 1000000000) : FnA Tryz.prog 23 [.sl 1 (ro.map I), .sl 4 (want.map viav)] (B b) := by
  subst hb
  have c1 := xBench_ok
  have c2 := oBad_ok benchP ro bench_small
  rw [if_pos hk, if_pos hk] at c2
  have c3 := vSame_ok (badP benchP ro) want hl
  refine fn_run (T := tab) Tryz.func23 rfl Tryz.ntmps23 rfl Tryz.results23 (fun _ => ?_)
  repeat' ((conv => whnf) <;> (first | refine Must.mk (fun h => h) ?_ | refine Must.mk (fun _ => rfl) ?_ | refine Must.mk Qw ?_ | refine MW.ok Qw ?_ | intro _ | exact Fin.pure rfl | refine Fin.pure ?_ | refine Br.tt ?_ | refine Br.ff ?_ | (refine Br.mk (fun h => ?_) (fun h => ?_) <;> (try simp only [sh] at h) <;> (try first | (exfalso; omega) | exact absurd trivial h | (exfalso; simp at h; done))) | refine Ix.at ‹_› Qw ?_ | refine Ix.mapN Qw ?_ | refine Ix.mapN1 Qw ?_ | refine Ix.map Qw ?_ | refine Ix.at Qi Qw ?_ | refine LK.callA ent22 (c1) rfl rfl (SbL.refl _) ?_ | refine Ask.callA ent22 (fun h => c1) rfl rfl (SbL.refl _) ?_ | refine LK.callA ent22 (c1) rfl rfl Ql ?_ | refine Ask.callA ent22 (fun h => c1) rfl rfl Ql ?_ | refine LK.callA ent13 (c2) rfl rfl (SbL.refl _) ?_ | refine Ask.callA ent13 (fun h => c2) rfl rfl (SbL.refl _) ?_ | refine LK.callA ent13 (c2) rfl rfl Ql ?_ | refine Ask.callA ent13 (fun h => c2) rfl rfl Ql ?_ | refine LK.callA ent19 (c3) rfl rfl (SbL.refl _) ?_ | refine Ask.callA ent19 (fun h => c3) rfl rfl (SbL.refl _) ?_ | refine LK.callA ent19 (c3) rfl rfl Ql ?_ | refine Ask.callA ent19 (fun h => c3) rfl rfl Ql ?_ | refine lB (T := tab) ?_ | refine lBA (T := tab) ?_ | refine rA (T := tab) ?_ | refine r1 (T := tab) ?_ | refine LK.askW rfl ?_ | refine s1 ?_ | refine sA ?_ | refine CK.any false Qk ?_ | fail))
set_option maxRecDepth 4000 in
set_option maxHeartbeats 8000000 in
theorem xHead_ok : FnA Tryz.prog 11 [] (B true) := by
  have c0 := xBench_ok
  have c1 := oValid_ok benchP bench_small
  rw [bench_valid] at c1
  have h0 := xHas_ok [0, -1, 0] [] true bench_bad0.1 (decide_eq_true bench_bad0.2) (by rw [bench_bad0.2]; simp)
  have h1 := xHas_ok [0, 0, 0] [⟨3, 0, 0, 1⟩, ⟨3, 0, 1, 2⟩, ⟨4, 0, 0, -1⟩] true bench_bad1.1 (decide_eq_true bench_bad1.2) (by rw [bench_bad1.2]; simp)
  have h2 := xHas_ok [1, -1, -1] [⟨6, 1, 0, -1⟩] true bench_bad2.1 (decide_eq_true bench_bad2.2) (by rw [bench_bad2.2]; simp)
  have h3 := xHas_ok [-1, 1, -1] [⟨5, 1, 1, -1⟩] true bench_bad3.1 (decide_eq_true bench_bad3.2) (by rw [bench_bad3.2]; simp)
  have k0 := oCost_ok benchP [0, -1, 0] bench_small
  have k1 := oCost_ok benchP [0, 0, 0] bench_small
  have k2 := oCost_ok benchP [0, 0] bench_small
  have k3 := oBad_ok benchP [0, 0, 2] bench_small
  rw [if_pos bench_bad0.1, if_pos bench_bad0.1, bench_cost.1] at k0
  rw [if_pos bench_bad1.1, if_pos bench_bad1.1, bench_cost.2] at k1
  rw [bench_no.1, if_neg Bool.false_ne_true, if_neg Bool.false_ne_true] at k2
  rw [bench_no.2, if_neg Bool.false_ne_true, if_neg Bool.false_ne_true] at k3
  refine fn_run (T := tab) Tryz.func11 rfl Tryz.ntmps11 rfl Tryz.results11 (fun _ => ?_)
  repeat' ((conv => whnf) <;> (first | refine Must.mk (fun h => h) ?_ | refine Must.mk (fun _ => rfl) ?_ | refine Must.mk Qw ?_ | refine MW.ok Qw ?_ | intro _ | exact Fin.pure rfl | refine Fin.pure ?_ | refine Br.tt ?_ | refine Br.ff ?_ | (refine Br.mk (fun h => ?_) (fun h => ?_) <;> (try simp only [sh] at h) <;> (try first | (exfalso; omega) | exact absurd trivial h | (exfalso; simp at h; done))) | refine Ix.at ‹_› Qw ?_ | refine Ix.mapN Qw ?_ | refine Ix.mapN1 Qw ?_ | refine Ix.map Qw ?_ | refine Ix.at Qi Qw ?_ | refine LK.callA ent22 (c0) rfl rfl (SbL.refl _) ?_ | refine Ask.callA ent22 (fun h => c0) rfl rfl (SbL.refl _) ?_ | refine LK.callA ent22 (c0) rfl rfl Ql ?_ | refine Ask.callA ent22 (fun h => c0) rfl rfl Ql ?_ | refine LK.callA ent17 (c1) rfl rfl (SbL.refl _) ?_ | refine Ask.callA ent17 (fun h => c1) rfl rfl (SbL.refl _) ?_ | refine LK.callA ent17 (c1) rfl rfl Ql ?_ | refine Ask.callA ent17 (fun h => c1) rfl rfl Ql ?_ | refine LK.callA ent23 (h0) rfl rfl (SbL.refl _) ?_ | refine Ask.callA ent23 (fun h => h0) rfl rfl (SbL.refl _) ?_ | refine LK.callA ent23 (h0) rfl rfl Ql ?_ | refine Ask.callA ent23 (fun h => h0) rfl rfl Ql ?_ | refine LK.callA ent23 (h1) rfl rfl (SbL.refl _) ?_ | refine Ask.callA ent23 (fun h => h1) rfl rfl (SbL.refl _) ?_ | refine LK.callA ent23 (h1) rfl rfl Ql ?_ | refine Ask.callA ent23 (fun h => h1) rfl rfl Ql ?_ | refine LK.callA ent23 (h2) rfl rfl (SbL.refl _) ?_ | refine Ask.callA ent23 (fun h => h2) rfl rfl (SbL.refl _) ?_ | refine LK.callA ent23 (h2) rfl rfl Ql ?_ | refine Ask.callA ent23 (fun h => h2) rfl rfl Ql ?_ | refine LK.callA ent23 (h3) rfl rfl (SbL.refl _) ?_ | refine Ask.callA ent23 (fun h => h3) rfl rfl (SbL.refl _) ?_ | refine LK.callA ent23 (h3) rfl rfl Ql ?_ | refine Ask.callA ent23 (fun h => h3) rfl rfl Ql ?_ | refine LK.callA ent15 (k0) rfl rfl (SbL.refl _) ?_ | refine Ask.callA ent15 (fun h => k0) rfl rfl (SbL.refl _) ?_ | refine LK.callA ent15 (k0) rfl rfl Ql ?_ | refine Ask.callA ent15 (fun h => k0) rfl rfl Ql ?_ | refine LK.callA ent15 (k1) rfl rfl (SbL.refl _) ?_ | refine Ask.callA ent15 (fun h => k1) rfl rfl (SbL.refl _) ?_ | refine LK.callA ent15 (k1) rfl rfl Ql ?_ | refine Ask.callA ent15 (fun h => k1) rfl rfl Ql ?_ | refine LK.callA ent15 (k2) rfl rfl (SbL.refl _) ?_ | refine Ask.callA ent15 (fun h => k2) rfl rfl (SbL.refl _) ?_ | refine LK.callA ent15 (k2) rfl rfl Ql ?_ | refine Ask.callA ent15 (fun h => k2) rfl rfl Ql ?_ | refine LK.callA ent13 (k3) rfl rfl (SbL.refl _) ?_ | refine Ask.callA ent13 (fun h => k3) rfl rfl (SbL.refl _) ?_ | refine LK.callA ent13 (k3) rfl rfl Ql ?_ | refine Ask.callA ent13 (fun h => k3) rfl rfl Ql ?_ | refine lB (T := tab) ?_ | refine lBA (T := tab) ?_ | refine rA (T := tab) ?_ | refine r1 (T := tab) ?_ | refine LK.askW rfl ?_ | refine s1 ?_ | refine sA ?_ | refine LK.gr (Gr.bslV (T := tab) rfl rfl rfl rfl) ?_ | refine Ask.of (Gr.bslV (T := tab) rfl rfl rfl rfl) ?_ | refine CK.any false Qk ?_ | refine CK.any true Qk ?_ | fail))
structure PlZ (p : Pl) : Prop where
  ch : p.zone.chs.length ≤ 9223372036854775807
  du : p.duties.length ≤ 9223372036854775807
  wk : p.workers.length ≤ 9223372036854775807
  aw : ∀ w ∈ p.workers, w.away.length ≤ 9223372036854775807
theorem small_of {p : Pl} {ro : List Int} (h : smallV p ro 9 = true) : Small p := by
  have h := smallV_iff.1 h
  exact ⟨by omega, by omega, by omega, fun w hw => by have := h.2.2.2.2 w hw; omega⟩
abbrev U (n : Int) : AV := .v (.int .u16 n)
end Go.Proofs.YtlnokdkhglmogaaGreat
