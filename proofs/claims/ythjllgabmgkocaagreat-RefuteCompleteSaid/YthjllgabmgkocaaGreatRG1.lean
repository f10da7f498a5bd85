/-
  Walks: package refute: within, validWorker, newPlan.
  Conditions: those of each theorem.
-/
import Derived.Test.YthjllgabmgkocaaGreatRO0
import Derived.Test.YthjllgabmgkocaaGreatGA
import Derived.Test.YthjllgabmgkocaaGreatE5E
namespace Go.Proofs.YthjllgabmgkocaaGreat
open Go.E2 Go.Wage
def gcs (p : Pl) : List AV := [.v (.string p.zone.name), I p.zone.base, .sl 2 (p.zone.chs.map chav), .sl 3 (p.duties.map duav), .sl 5 (p.workers.map wkav), I p.lim.rest, I p.lim.week, I p.lim.night.1, I p.lim.night.2, I p.lim.minor,
  .sl 1 (p.duties.map fun d => .sl 2 ((minsD p d).map ptav)), .sl 1 (p.duties.map fun d => I (nightD p d)), I (cheapL p.workers)]
def z13 : List AV := [.v (.string ByteArray.empty), I 0, .v (.slice none 0 0), .v (.slice none 0 0), .v (.slice none 0 0), I 0, I 0, I 0, I 0, I 0, .v (.slice none 0 0), .v (.slice none 0 0), I 0]
def nwR (p : Pl) : List AV := if validP p then [.agg (gcs p), B true] else [.agg z13, B false]
theorem noN {p : Pl} (h : ¬ validP p = true) : AV.tup [.agg z13, B false] = .tup (nwR p) := by rw [nwR, if_neg h]
theorem noF {p : Pl} {L : List Ent} (h : ¬ validP p = true) : Fin L (.tup [.agg z13, B false]) (Is (.tup (nwR p))) := Fin.pure (noN h)
theorem uWithin_ok (n m : Int) : FnA Tryz.prog 32 [I n, I m] (B (inB n m)) := by
  refine fn_run (T := tab) Tryz.func32 rfl Tryz.ntmps32 rfl Tryz.results32 (fun _ => ?_)
  repeat' ((conv => whnf) <;> (first | refine Must.mk (fun h => h) ?_ | refine Must.mk (fun _ => rfl) ?_ | refine Must.mk Qw ?_ | refine MW.ok Qw ?_ | intro _ | exact Fin.pure rfl | refine Fin.pure ?_ | refine Br.tt ?_ | refine Br.ff ?_ | (refine Br.mk (fun h => ?_) (fun h => ?_) <;> (try simp only [sh] at h) <;> (try first | (exfalso; omega) | exact absurd trivial h | (exfalso; simp at h; done))) | refine Ix.at ‹_› Qw ?_ | refine Ix.mapN Qw ?_ | refine Ix.mapN1 Qw ?_ | refine Ix.map Qw ?_ | refine Ix.at Qi Qw ?_ | refine LK.askW rfl ?_ | refine CK.any false Qk ?_ | fail))
  all_goals (refine congrArg B ?_; unfold inB; rw [Bool.eq_iff_iff]; simp only [Bool.and_eq_true, decide_eq_true_eq])
set_option maxRecDepth 4000 in
set_option maxHeartbeats 4000000 in
theorem uWorker_ok (x : Wk) (ha : x.away.length ≤ 1000) : FnA Tryz.prog 35 [wkav x] (B (wkOk x)) := by
  have c4 := uWithin_ok x.skill 65535
  have c5 := uWithin_ok x.wage 1000000
  have c6 := sValid_ok x.away (by omega)
  have hla : (x.away.map spav).length = x.away.length := by simp
  have hno : ¬ wkOk x = true → (AV.v (.bool false)) = B (wkOk x) := fun h => congrArg B (Bool.eq_false_iff.2 h).symm
  refine fn_run (T := tab) Tryz.func35 rfl Tryz.ntmps35 rfl Tryz.results35 (fun _ => ?_)
  repeat' ((conv => whnf) <;> (first | refine Must.mk (fun h => h) ?_ | refine Must.mk (fun _ => rfl) ?_ | refine Must.mk Qw ?_ | refine MW.ok Qw ?_ | intro _ | exact Fin.pure rfl | refine Fin.pure ?_ | refine Br.tt ?_ | refine Br.ff ?_ | (refine Br.mk (fun h => ?_) (fun h => ?_) <;> (try simp only [sh] at h) <;> (try first | (exfalso; omega) | exact absurd trivial h | (exfalso; simp at h; done))) | refine Ix.at ‹_› Qw ?_ | refine Ix.mapN Qw ?_ | refine Ix.mapN1 Qw ?_ | refine Ix.map Qw ?_ | refine Ix.at Qi Qw ?_ | refine LK.callA ent32 (c4) rfl rfl (SbL.refl _) ?_ | refine Ask.callA ent32 (fun h => c4) rfl rfl (SbL.refl _) ?_ | refine LK.callA ent32 (c4) rfl rfl Ql ?_ | refine Ask.callA ent32 (fun h => c4) rfl rfl Ql ?_ | refine LK.callA ent32 (c5) rfl rfl (SbL.refl _) ?_ | refine Ask.callA ent32 (fun h => c5) rfl rfl (SbL.refl _) ?_ | refine LK.callA ent32 (c5) rfl rfl Ql ?_ | refine Ask.callA ent32 (fun h => c5) rfl rfl Ql ?_ | refine LK.callA ent69 (c6) rfl rfl (SbL.refl _) ?_ | refine Ask.callA ent69 (fun h => c6) rfl rfl (SbL.refl _) ?_ | refine LK.callA ent69 (c6) rfl rfl Ql ?_ | refine Ask.callA ent69 (fun h => c6) rfl rfl Ql ?_ | refine lB (T := tab) ?_ | refine lBA (T := tab) ?_ | refine rA (T := tab) ?_ | refine r1 (T := tab) ?_ | refine LK.askW rfl ?_ | refine s1 ?_ | refine sA ?_ | refine CK.any false Qk ?_ | fail))
  · refine hno fun hp => ?_
    have := wkOk_iff.1 hp
    rcases h with h | h
    · rw [this.1] at h; cases h
    · rw [this.2.1] at h; cases h
  · refine hno fun hp => ?_
    have := wkOk_iff.1 hp
    rcases h with h | h
    · omega
    · rw [this.2.2.2.1] at h; cases h
  rename_i hi3
  have haw := h
  (conv => whnf); refine CK.loopK [2, 4, 28, 29, 30, 31, 32, 33, 34, 35, 36, 37, 38, 39, 40] (σ := Nat) (fun j => j ≤ x.away.length ∧ (x.away.take j).all awOk = true) (fun j => [(28, I j)]) (fun _ => []) _ (fun j => x.away.length - j) 0 ⟨Nat.zero_le _, rfl⟩ Qy (List.Sublist.refl _) ?_
  conv => whnf
  rintro j ⟨m1, m2⟩
  by_cases hj : j < x.away.length
  · repeat' ((conv => whnf) <;> (first | (refine Nxt.of (j + 1) [2, 4, 28, 29, 30, 31, 32, 33, 34, 35, 36, 37, 38, 39, 40] Qr Qr Qr ?_ ?_ Qy Qs <;> (try dsimp only) <;> (try omega)) | refine Must.mk (fun h => h) ?_ | refine Must.mk (fun _ => rfl) ?_ | refine Must.mk Qw ?_ | refine MW.ok Qw ?_ | intro _ | exact Fin.pure rfl | refine Fin.pure ?_ | refine Br.tt ?_ | refine Br.ff ?_ | (refine Br.mk (fun h => ?_) (fun h => ?_) <;> (try simp only [sh] at h) <;> (try first | (exfalso; omega) | exact absurd trivial h | (exfalso; simp at h; done))) | refine Ix.at ‹_› Qw ?_ | refine Ix.mapN Qw ?_ | refine Ix.mapN1 Qw ?_ | refine Ix.map Qw ?_ | refine Ix.at Qi Qw ?_ | refine lB (T := tab) ?_ | refine lBA (T := tab) ?_ | refine rA (T := tab) ?_ | refine r1 (T := tab) ?_ | refine LK.askW rfl ?_ | refine s1 ?_ | refine sA ?_ | refine CK.any false Qk ?_ | fail))
    · refine hno fun hp => ?_
      have := wkOk_iff.1 hp
      have := List.all_eq_true.1 this.2.2.2.2 _ (getD_mem hj)
      unfold awOk at this
      simp only [Bool.and_eq_true, decide_eq_true_eq] at this
      omega
    · refine ⟨hj, all_take m2 hj ?_⟩
      unfold awOk
      simp only [Bool.and_eq_true, decide_eq_true_eq]
      exact h
  · rw [List.take_of_length_le (by omega)] at m2
    repeat' ((conv => whnf) <;> (first | refine Must.mk (fun h => h) ?_ | refine Must.mk (fun _ => rfl) ?_ | refine Must.mk Qw ?_ | refine MW.ok Qw ?_ | intro _ | exact Fin.pure rfl | refine Fin.pure ?_ | refine Br.tt ?_ | refine Br.ff ?_ | (refine Br.mk (fun h => ?_) (fun h => ?_) <;> (try simp only [sh] at h) <;> (try first | (exfalso; omega) | exact absurd trivial h | (exfalso; simp at h; done))) | refine Ix.at ‹_› Qw ?_ | refine Ix.mapN Qw ?_ | refine Ix.mapN1 Qw ?_ | refine Ix.map Qw ?_ | refine Ix.at Qi Qw ?_ | refine lB (T := tab) ?_ | refine lBA (T := tab) ?_ | refine rA (T := tab) ?_ | refine r1 (T := tab) ?_ | refine LK.askW rfl ?_ | refine s1 ?_ | refine sA ?_ | refine CK.any false Qk ?_ | fail))
    exact congrArg B (wkOk_iff.2 ⟨hi3.1, hi3.2, by omega, haw.2, m2⟩).symm
theorem take_map {α β : Type} [Inhabited α] {f : α → β} {l : List α} {k : Nat} (h : k < l.length) : (l.take (k + 1)).map f = (l.take k).map f ++ [f (l.getD k default)] := by
  rw [List.take_succ_eq_append_getElem h, List.map_append]
  simp [List.getD, h]
theorem take_snoc {α : Type} [Inhabited α] {l : List α} {k : Nat} (h : k < l.length) : l.take (k + 1) = l.take k ++ [l.getD k default] := by
  rw [List.take_succ_eq_append_getElem h]
  simp [List.getD, h]
set_option maxRecDepth 4000 in
set_option maxHeartbeats 8000000 in
theorem uNew_ok (p : Pl) (hs : Small p) : FnA Tryz.prog 19 [.agg (pcs p)] (.tup (nwR p)) := by
  have c1 := zValid_ok p.zone (by have := hs.ch; omega)
  have hld : (p.duties.map duav).length = p.duties.length := by simp
  have hlw : (p.workers.map wkav).length = p.workers.length := by simp
  have hsd := hs.du
  have hsw := hs.wk
  have d1 := uWithin_ok p.lim.rest 10080
  have d2 := uWithin_ok p.lim.week 20000
  have d3 := uWithin_ok p.lim.minor 1500
  have d4 := uWithin_ok p.lim.night.1 1440
  have d5 := uWithin_ok p.lim.night.2 1440
  refine fn_run (T := tab) Tryz.func19 rfl Tryz.ntmps19 rfl Tryz.results19 (fun _ => ?_)
  repeat' ((conv => whnf) <;> (first | refine Must.mk (fun h => h) ?_ | refine Must.mk (fun _ => rfl) ?_ | refine Must.mk Qw ?_ | refine MW.ok Qw ?_ | intro _ | exact Fin.pure rfl | refine Br.tt ?_ | refine Br.ff ?_ | (refine Br.mk (fun h => ?_) (fun h => ?_) <;> (try simp only [sh] at h) <;> (try first | (exfalso; omega) | exact absurd trivial h | (exfalso; simp at h; done))) | refine Ix.at ‹_› Qw ?_ | refine Ix.mapN Qw ?_ | refine Ix.mapN1 Qw ?_ | refine Ix.map Qw ?_ | refine Ix.at Qi Qw ?_ | refine LK.callA ent31 (c1) rfl rfl (SbL.refl _) ?_ | refine Ask.callA ent31 (fun h => c1) rfl rfl (SbL.refl _) ?_ | refine LK.callA ent31 (c1) rfl rfl Ql ?_ | refine Ask.callA ent31 (fun h => c1) rfl rfl Ql ?_ | refine LK.callA ent32 (d1) rfl rfl (SbL.refl _) ?_ | refine Ask.callA ent32 (fun h => d1) rfl rfl (SbL.refl _) ?_ | refine LK.callA ent32 (d1) rfl rfl Ql ?_ | refine Ask.callA ent32 (fun h => d1) rfl rfl Ql ?_ | refine LK.callA ent32 (d2) rfl rfl (SbL.refl _) ?_ | refine Ask.callA ent32 (fun h => d2) rfl rfl (SbL.refl _) ?_ | refine LK.callA ent32 (d2) rfl rfl Ql ?_ | refine Ask.callA ent32 (fun h => d2) rfl rfl Ql ?_ | refine LK.callA ent32 (d3) rfl rfl (SbL.refl _) ?_ | refine Ask.callA ent32 (fun h => d3) rfl rfl (SbL.refl _) ?_ | refine LK.callA ent32 (d3) rfl rfl Ql ?_ | refine Ask.callA ent32 (fun h => d3) rfl rfl Ql ?_ | refine LK.callA ent32 (d4) rfl rfl (SbL.refl _) ?_ | refine Ask.callA ent32 (fun h => d4) rfl rfl (SbL.refl _) ?_ | refine LK.callA ent32 (d4) rfl rfl Ql ?_ | refine Ask.callA ent32 (fun h => d4) rfl rfl Ql ?_ | refine LK.callA ent32 (d5) rfl rfl (SbL.refl _) ?_ | refine Ask.callA ent32 (fun h => d5) rfl rfl (SbL.refl _) ?_ | refine LK.callA ent32 (d5) rfl rfl Ql ?_ | refine Ask.callA ent32 (fun h => d5) rfl rfl Ql ?_ | refine lB (T := tab) ?_ | refine lBA (T := tab) ?_ | refine rA (T := tab) ?_ | refine r1 (T := tab) ?_ | refine LK.askW rfl ?_ | refine s1 ?_ | refine sA ?_ | refine CK.any false Qk ?_ | fail))
  · refine noF fun hp => ?_
    obtain ⟨h1, h2, h3, h4, h5, h6⟩ := validP_iff.1 hp
    unfold limOk at h6
    simp only [Bool.and_eq_true] at h6
    grind
  rename_i b1 b2 b3 b4
  have hz := h.1.1.1.1.1.1.1
  have h24 : p.duties.length ≤ 24 := by omega
  have h12 : p.workers.length ≤ 12 := by omega
  have hlm : limOk p.lim = true := by
    unfold limOk
    simp only [Bool.and_eq_true]
    exact ⟨⟨⟨⟨h.1.1.1.1.2, h.1.1.1.2⟩, h.1.1.2⟩, h.1.2⟩, h.2⟩
  have hlim : 0 ≤ p.lim.night.1 ∧ p.lim.night.1 ≤ 1440 ∧ 0 ≤ p.lim.night.2 ∧ p.lim.night.2 ≤ 1440 := by
    have := hlm
    unfold limOk inB at this
    simp only [Bool.and_eq_true, decide_eq_true_eq] at this
    omega
  clear h d1 d2 d3 d4 d5
  repeat' ((conv => whnf) <;> (first | refine Must.mk (fun h => h) ?_ | refine Must.mk (fun _ => rfl) ?_ | refine Must.mk Qw ?_ | refine MW.ok Qw ?_ | intro _ | exact Fin.pure rfl | refine Br.tt ?_ | refine Br.ff ?_ | (refine Br.mk (fun h => ?_) (fun h => ?_) <;> (try simp only [sh] at h) <;> (try first | (exfalso; omega) | exact absurd trivial h | (exfalso; simp at h; done))) | refine Ix.at ‹_› Qw ?_ | refine Ix.mapN Qw ?_ | refine Ix.mapN1 Qw ?_ | refine Ix.map Qw ?_ | refine Ix.at Qi Qw ?_ | refine lB (T := tab) ?_ | refine lBA (T := tab) ?_ | refine rA (T := tab) ?_ | refine r1 (T := tab) ?_ | refine LK.askW rfl ?_ | refine s1 ?_ | refine sA ?_ | refine CK.any false Qk ?_ | fail))
  conv => whnf
  refine CK.nilrow 3 1 ?_
  refine CK.nilrow 75 1 ?_
  (conv => whnf); refine CK.loopK [3, 8, 9, 10, 11, 12, 67, 68, 69, 70, 71, 72, 73, 74, 75, 76, 77, 78, 79, 80, 81, 82, 83, 84, 85, 86, 87, 88, 89, 90, 91, 92, 93, 94, 95, 96, 97, 98, 99, 100, 101, 102] (σ := Nat × (Option Addr × Nat × Nat) × (Option Addr × Nat × Nat)) (fun s => s.1 ≤ p.duties.length ∧ (p.duties.take s.1).all (dutyOk p) = true) (fun ⟨k, _⟩ => [(67, I k)]) (fun ⟨k, ⟨A, q, cp⟩, ⟨A2, q2, cp2⟩⟩ => [.row (.slice A q cp) 75 1 0 false ((p.duties.take k).map fun d => AV.sl 2 ((minsD p d).map ptav)), .row (.slice A2 q2 cp2) 3 1 0 false ((p.duties.take k).map fun d => I (nightD p d)), .blk b4 30 false [I p.lim.rest, I p.lim.week, I p.lim.night.1, I p.lim.night.2, I p.lim.minor], .blk b3 57 false [.v (.string p.zone.name), I p.zone.base, .sl 2 (p.zone.chs.map chav), .sl 3 (p.duties.map duav), .sl 5 (p.workers.map wkav), I p.lim.rest, I p.lim.week, I p.lim.night.1, I p.lim.night.2, I p.lim.minor, .v (.slice A q cp), .v (.slice A2 q2 cp2), I 0]]) _ (fun s => p.duties.length - s.1) (0, (none, 0, 0), (none, 0, 0)) ⟨Nat.zero_le _, rfl⟩ Qy (List.Sublist.refl _) ?_
  conv => whnf
  rintro ⟨k, ⟨A, q, cp⟩, ⟨A2, q2, cp2⟩⟩ ⟨i1, i2⟩
  simp only at i1 i2
  by_cases hk : k < p.duties.length
  · have c2 := hMinutes_ok p (p.duties.getD k default) hz
    by_cases hdk : dutyOk p (p.duties.getD k default) = true
    · rw [if_pos hdk, if_pos hdk] at c2
      have hdk2 := hdk
      unfold dutyOk at hdk2
      have c3 := hNight_ok p (p.duties.getD k default) hz (Bool.and_eq_true_iff.1 hdk2).1 hlim
      have e1 := take_map (f := fun d => AV.sl 2 ((minsD p d).map ptav)) hk
      have e2 := take_map (f := fun d => I (nightD p d)) hk
      have e3 : (p.duties.take k).length = k := by rw [List.length_take]; omega
      repeat' ((conv => whnf) <;> (first | refine Must.mk (fun h => h) ?_ | refine Must.mk (fun _ => rfl) ?_ | refine Must.mk Qw ?_ | refine MW.ok Qw ?_ | intro _ | exact Fin.pure rfl | refine Fin.pure ?_ | refine Br.tt ?_ | refine Br.ff ?_ | (refine Br.mk (fun h => ?_) (fun h => ?_) <;> (try simp only [sh] at h) <;> (try first | (exfalso; omega) | exact absurd trivial h | (exfalso; simp at h; done))) | refine Ix.at ‹_› Qw ?_ | refine Ix.mapN Qw ?_ | refine Ix.mapN1 Qw ?_ | refine Ix.map Qw ?_ | refine Ix.at Qi Qw ?_ | refine LK.callA ent33 (c2) rfl rfl (SbL.refl _) ?_ | refine Ask.callA ent33 (fun h => c2) rfl rfl (SbL.refl _) ?_ | refine LK.callA ent33 (c2) rfl rfl Ql ?_ | refine Ask.callA ent33 (fun h => c2) rfl rfl Ql ?_ | refine LK.callA ent34 (c3) rfl rfl (SbL.refl _) ?_ | refine Ask.callA ent34 (fun h => c3) rfl rfl (SbL.refl _) ?_ | refine LK.callA ent34 (c3) rfl rfl Ql ?_ | refine Ask.callA ent34 (fun h => c3) rfl rfl Ql ?_ | refine lB (T := tab) ?_ | refine lBA (T := tab) ?_ | refine rA (T := tab) ?_ | refine r1 (T := tab) ?_ | refine LK.askW rfl ?_ | refine s1 ?_ | refine sA ?_ | refine pS (T := tab) ?_ | refine LK.gr (Gr.bslV (T := tab) rfl rfl rfl rfl) ?_ | refine Ask.of (Gr.bslV (T := tab) rfl rfl rfl rfl) ?_ | refine CK.any false Qk ?_ | refine CK.any true Qk ?_ | fail))
      rename_i A B' C A2 B2 C2
      (conv => whnf); (refine Nxt.of ((k + 1, (A, B', C), (A2, B2, C2))) [3, 8, 9, 10, 11, 12, 67, 68, 69, 70, 71, 72, 73, 74, 75, 76, 77, 78, 79, 80, 81, 82, 83, 84, 85, 86, 87, 88, 89, 90, 91, 92, 93, 94, 95, 96, 97, 98, 99, 100, 101, 102] Qr Qr Qr ?_ ?_ Qy ?_ <;> (try dsimp only) <;> (try omega))
      · exact ⟨hk, all_take i2 hk hdk⟩
      · rw [e1, e2]
        exact Qs
    · rw [if_neg hdk, if_neg hdk] at c2
      have hnv : ¬ validP p = true := fun hp => hdk (List.all_eq_true.1 (validP_iff.1 hp).2.2.2.1 _ (getD_mem hk))
      have hne : (if duB (p.duties.getD k default) = true then (21 : Int) else 171) ≠ 0 := by split <;> omega
      generalize (if duB (p.duties.getD k default) = true then (21 : Int) else 171) = er at *
      repeat' ((conv => whnf) <;> (first | refine Must.mk (fun h => h) ?_ | refine Must.mk (fun _ => rfl) ?_ | refine Must.mk Qw ?_ | refine MW.ok Qw ?_ | intro _ | exact Fin.pure rfl | refine Br.tt ?_ | refine Br.ff ?_ | (refine Br.mk (fun h => ?_) (fun h => ?_) <;> (try simp only [sh] at h) <;> (try first | (exfalso; omega) | exact absurd trivial h | (exfalso; simp at h; done))) | refine Ix.at ‹_› Qw ?_ | refine Ix.mapN Qw ?_ | refine Ix.mapN1 Qw ?_ | refine Ix.map Qw ?_ | refine Ix.at Qi Qw ?_ | refine LK.callA ent33 (c2) rfl rfl (SbL.refl _) ?_ | refine Ask.callA ent33 (fun h => c2) rfl rfl (SbL.refl _) ?_ | refine LK.callA ent33 (c2) rfl rfl Ql ?_ | refine Ask.callA ent33 (fun h => c2) rfl rfl Ql ?_ | refine lB (T := tab) ?_ | refine lBA (T := tab) ?_ | refine rA (T := tab) ?_ | refine r1 (T := tab) ?_ | refine LK.askW rfl ?_ | refine s1 ?_ | refine sA ?_ | refine CK.any false Qk ?_ | fail))
      exact noF hnv
  · have ek : p.duties.take k = p.duties := List.take_of_length_le (by omega)
    rw [ek] at i2
    repeat' ((conv => whnf) <;> (first | refine Must.mk (fun h => h) ?_ | refine Must.mk (fun _ => rfl) ?_ | refine Must.mk Qw ?_ | refine MW.ok Qw ?_ | intro _ | exact Fin.pure rfl | refine Br.tt ?_ | refine Br.ff ?_ | (refine Br.mk (fun h => ?_) (fun h => ?_) <;> (try simp only [sh] at h) <;> (try first | (exfalso; omega) | exact absurd trivial h | (exfalso; simp at h; done))) | refine Ix.at ‹_› Qw ?_ | refine Ix.mapN Qw ?_ | refine Ix.mapN1 Qw ?_ | refine Ix.map Qw ?_ | refine Ix.at Qi Qw ?_ | refine lB (T := tab) ?_ | refine lBA (T := tab) ?_ | refine rA (T := tab) ?_ | refine r1 (T := tab) ?_ | refine LK.askW rfl ?_ | refine s1 ?_ | refine sA ?_ | refine CK.any false Qk ?_ | fail))
    conv => whnf
    dsimp only
    rw [ek]
    (conv => whnf); refine CK.loopK [3, 13, 14, 106, 107, 108, 109, 110, 111, 112, 113, 114, 115, 116, 117, 118, 119, 120, 121, 122, 123, 124, 125, 126, 127] (σ := Nat) (fun s => s ≤ p.workers.length ∧ (p.workers.take s).all wkOk = true) (fun j => [(106, I j)]) (fun j => [.row (.slice A q cp) 75 1 0 false (p.duties.map fun d => AV.sl 2 ((minsD p d).map ptav)), .row (.slice A2 q2 cp2) 3 1 0 false (p.duties.map fun d => I (nightD p d)), .blk b4 30 false [I p.lim.rest, I p.lim.week, I p.lim.night.1, I p.lim.night.2, I p.lim.minor], .blk b3 57 false [.v (.string p.zone.name), I p.zone.base, .sl 2 (p.zone.chs.map chav), .sl 3 (p.duties.map duav), .sl 5 (p.workers.map wkav), I p.lim.rest, I p.lim.week, I p.lim.night.1, I p.lim.night.2, I p.lim.minor, .v (.slice A q cp), .v (.slice A2 q2 cp2), I (cheapL (p.workers.take j))]]) _ (fun s => p.workers.length - s) 0 ⟨Nat.zero_le _, rfl⟩ Qy (List.Sublist.refl _) ?_
    conv => whnf
    rintro j ⟨m1, m2⟩
    by_cases hj : j < p.workers.length
    · have haw := hs.aw _ (getD_mem hj)
      have c4 := uWorker_ok _ haw
      have hsn := cheap_snoc (p.workers.take j) (p.workers.getD j default)
      rw [← take_snoc hj, List.length_take, Nat.min_eq_left (by omega)] at hsn
      repeat' ((conv => whnf) <;> (first | refine Must.mk (fun h => h) ?_ | refine Must.mk (fun _ => rfl) ?_ | refine Must.mk Qw ?_ | refine MW.ok Qw ?_ | intro _ | exact Fin.pure rfl | refine Br.tt ?_ | refine Br.ff ?_ | (refine Br.mk (fun h => ?_) (fun h => ?_) <;> (try simp only [sh] at h) <;> (try first | (exfalso; omega) | exact absurd trivial h | (exfalso; simp at h; done))) | refine Ix.at ‹_› Qw ?_ | refine Ix.mapN Qw ?_ | refine Ix.mapN1 Qw ?_ | refine Ix.map Qw ?_ | refine Ix.at Qi Qw ?_ | refine LK.callA ent35 (c4) rfl rfl (SbL.refl _) ?_ | refine Ask.callA ent35 (fun h => c4) rfl rfl (SbL.refl _) ?_ | refine LK.callA ent35 (c4) rfl rfl Ql ?_ | refine Ask.callA ent35 (fun h => c4) rfl rfl Ql ?_ | refine lB (T := tab) ?_ | refine lBA (T := tab) ?_ | refine rA (T := tab) ?_ | refine r1 (T := tab) ?_ | refine LK.askW rfl ?_ | refine s1 ?_ | refine sA ?_ | refine CK.any false Qk ?_ | fail))
      · exact noF fun hp => by
          have := List.all_eq_true.1 (validP_iff.1 hp).2.2.2.2.1 _ (getD_mem hj)
          rw [this] at h; cases h
      · rename_i hq
        repeat' ((conv => whnf) <;> (first | refine Must.mk (fun h => h) ?_ | refine Must.mk (fun _ => rfl) ?_ | refine Must.mk Qw ?_ | refine MW.ok Qw ?_ | intro _ | exact Fin.pure rfl | refine Br.tt ?_ | refine Br.ff ?_ | (refine Br.mk (fun h => ?_) (fun h => ?_) <;> (try simp only [sh] at h) <;> (try first | (exfalso; omega) | exact absurd trivial h | (exfalso; simp at h; done))) | refine Ix.at ‹_› Qw ?_ | refine Ix.mapN Qw ?_ | refine Ix.mapN1 Qw ?_ | refine Ix.map Qw ?_ | refine Ix.at Qi Qw ?_ | refine lB (T := tab) ?_ | refine lBA (T := tab) ?_ | refine rA (T := tab) ?_ | refine r1 (T := tab) ?_ | refine LK.askW rfl ?_ | refine s1 ?_ | refine sA ?_ | refine CK.any false Qk ?_ | fail))
        (conv => whnf); (refine Nxt.of (j + 1) [3, 13, 14, 106, 107, 108, 109, 110, 111, 112, 113, 114, 115, 116, 117, 118, 119, 120, 121, 122, 123, 124, 125, 126, 127] Qr Qr Qr ?_ ?_ Qy ?_ <;> (try dsimp only) <;> (try omega))
        · exact ⟨hj, all_take m2 hj hq⟩
        · rw [hsn, if_pos (by omega)]
          exact Qs
      · rename_i hq
        (conv => whnf); (refine Nxt.of (j + 1) [3, 13, 14, 106, 107, 108, 109, 110, 111, 112, 113, 114, 115, 116, 117, 118, 119, 120, 121, 122, 123, 124, 125, 126, 127] Qr Qr Qr ?_ ?_ Qy ?_ <;> (try dsimp only) <;> (try omega))
        · exact ⟨hj, all_take m2 hj hq⟩
        · rw [hsn, if_neg (by omega)]
          exact Qs
    · rw [List.take_of_length_le (by omega)] at m2
      have hp : validP p = true := validP_iff.2 ⟨hz, h24, h12, i2, m2, hlm⟩
      repeat' ((conv => whnf) <;> (first | refine Must.mk (fun h => h) ?_ | refine Must.mk (fun _ => rfl) ?_ | refine Must.mk Qw ?_ | refine MW.ok Qw ?_ | intro _ | exact Fin.pure rfl | refine Br.tt ?_ | refine Br.ff ?_ | (refine Br.mk (fun h => ?_) (fun h => ?_) <;> (try simp only [sh] at h) <;> (try first | (exfalso; omega) | exact absurd trivial h | (exfalso; simp at h; done))) | refine Ix.at ‹_› Qw ?_ | refine Ix.mapN Qw ?_ | refine Ix.mapN1 Qw ?_ | refine Ix.map Qw ?_ | refine Ix.at Qi Qw ?_ | refine lB (T := tab) ?_ | refine lBA (T := tab) ?_ | refine rA (T := tab) ?_ | refine r1 (T := tab) ?_ | refine LK.askW rfl ?_ | refine s1 ?_ | refine sA ?_ | refine CK.any false Qk ?_ | fail))
      conv => whnf
      rw [List.take_of_length_le (show p.workers.length ≤ j by omega), nwR, if_pos hp]
      refine Fin.frzR 0 rfl ?_
      refine Fin.frzR 1 rfl ?_
      exact Fin.seeP Qz
end Go.Proofs.YthjllgabmgkocaaGreat
