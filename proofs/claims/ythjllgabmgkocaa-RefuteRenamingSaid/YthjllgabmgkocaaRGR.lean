/-
  Walks: RefuteRenaming.
  Conditions: those of each theorem.
-/
import Derived.Test.YthjllgabmgkocaaRGP
import Derived.Test.YthjllgabmgkocaaGC
namespace Go.Proofs.Ythjllgabmgkocaa
open Go.E2 Go.Wage
theorem dOther_ok (x a b : Int) : FnA Try.prog 10 [I x, I a, I b] (I (swI a b x)) := by
  unfold swI
  by_cases h1 : x = a
  · rw [if_pos h1]
    refine fn_run (T := tab) Try.func10 rfl Try.ntmps10 rfl Try.results10 (fun _ => ?_)
    repeat' ((conv => whnf) <;> (first | refine Must.mk (fun h => h) ?_ | refine Must.mk (fun _ => rfl) ?_ | refine Must.mk Qw ?_ | refine MW.ok Qw ?_ | intro _ | exact Fin.pure rfl | refine Fin.pure ?_ | refine Br.tt ?_ | refine Br.ff ?_ | (refine Br.mk (fun h => ?_) (fun h => ?_) <;> (try simp only [sh] at h) <;> (try first | (exfalso; omega) | exact absurd trivial h | (exfalso; simp at h; done))) | refine Ix.at ‹_› Qw ?_ | refine Ix.mapN Qw ?_ | refine Ix.mapN1 Qw ?_ | refine Ix.map Qw ?_ | refine Ix.at Qi Qw ?_ | refine Rem.nn Qw ?_ | refine Rem.t Qw ?_ | refine lB (T := tab) ?_ | refine lBA (T := tab) ?_ | refine LK.askW rfl ?_ | refine s1 ?_ | refine sA ?_ | refine CK.any false Qk ?_ | fail))
  · rw [if_neg h1]
    by_cases h2 : x = b
    · rw [if_pos h2]
      refine fn_run (T := tab) Try.func10 rfl Try.ntmps10 rfl Try.results10 (fun _ => ?_)
      repeat' ((conv => whnf) <;> (first | refine Must.mk (fun h => h) ?_ | refine Must.mk (fun _ => rfl) ?_ | refine Must.mk Qw ?_ | refine MW.ok Qw ?_ | intro _ | exact Fin.pure rfl | refine Fin.pure ?_ | refine Br.tt ?_ | refine Br.ff ?_ | (refine Br.mk (fun h => ?_) (fun h => ?_) <;> (try simp only [sh] at h) <;> (try first | (exfalso; omega) | exact absurd trivial h | (exfalso; simp at h; done))) | refine Ix.at ‹_› Qw ?_ | refine Ix.mapN Qw ?_ | refine Ix.mapN1 Qw ?_ | refine Ix.map Qw ?_ | refine Ix.at Qi Qw ?_ | refine Rem.nn Qw ?_ | refine Rem.t Qw ?_ | refine lB (T := tab) ?_ | refine lBA (T := tab) ?_ | refine LK.askW rfl ?_ | refine s1 ?_ | refine sA ?_ | refine CK.any false Qk ?_ | fail))
    · rw [if_neg h2]
      refine fn_run (T := tab) Try.func10 rfl Try.ntmps10 rfl Try.results10 (fun _ => ?_)
      repeat' ((conv => whnf) <;> (first | refine Must.mk (fun h => h) ?_ | refine Must.mk (fun _ => rfl) ?_ | refine Must.mk Qw ?_ | refine MW.ok Qw ?_ | intro _ | exact Fin.pure rfl | refine Fin.pure ?_ | refine Br.tt ?_ | refine Br.ff ?_ | (refine Br.mk (fun h => ?_) (fun h => ?_) <;> (try simp only [sh] at h) <;> (try first | (exfalso; omega) | exact absurd trivial h | (exfalso; simp at h; done))) | refine Ix.at ‹_› Qw ?_ | refine Ix.mapN Qw ?_ | refine Ix.mapN1 Qw ?_ | refine Ix.map Qw ?_ | refine Ix.at Qi Qw ?_ | refine Rem.nn Qw ?_ | refine Rem.t Qw ?_ | refine lB (T := tab) ?_ | refine lBA (T := tab) ?_ | refine LK.askW rfl ?_ | refine s1 ?_ | refine sA ?_ | refine CK.any false Qk ?_ | fail))
theorem swap_set {α β : Type} [Inhabited α] (f : α → β) {l : List α} {a b : Nat} (ha : a < l.length) (_hb : b < l.length) :
    (([] ++ l.map f).set a (f (l.getD b default))).set b (f (l.getD a default)) = (swL a b l).map f := by
  refine List.ext_getElem (by simp [swL_len]) fun i h1 h2 => ?_
  have hi : i < l.length := by rw [List.length_map, swL_len] at h2; exact h2
  have h3 : (swL a b l)[i]'(by rw [swL_len]; exact hi) = l.getD (swN a b i) default := by
    rw [← swL_get hi, getD_at (by rw [swL_len]; exact hi)]
  rw [List.getElem_map, h3, List.getElem_set]
  unfold swN
  by_cases e1 : b = i
  · rw [if_pos e1]
    subst e1
    by_cases e2 : b = a
    · subst e2
      rw [if_pos rfl]
    · rw [if_neg e2, if_pos rfl]
  · rw [if_neg e1, List.getElem_set]
    by_cases e2 : a = i
    · subst e2
      rw [if_pos rfl, if_pos rfl]
    · rw [if_neg e2, if_neg (fun h => e2 h.symm), if_neg (fun h => e1 h.symm), getD_at hi]
      simp
theorem logS_ren {a b : Nat} {log : List Sg} (h : LogS log) : LogS (log.map (renS a b)) :=
  ⟨by rw [List.length_map]; exact h.l, fun s hs => by
    obtain ⟨s', hs', rfl⟩ := List.mem_map.1 hs
    have := h.cl s' hs'
    exact ⟨by show (s'.cl.map (renL a b)).length ≤ _; rw [List.length_map]; exact this.1, this.2⟩⟩
theorem small_ren {a b : Nat} {p : Pl} (h : Small p) : Small (renP a b p) :=
  ⟨h.ch, by show (swL a b p.duties).length ≤ _; rw [swL_len]; exact h.du, h.wk, h.aw⟩
set_option maxRecDepth 4000 in
set_option maxHeartbeats 4000000 in
theorem dRenaming_all (p : Pl) (bd : Int) (log : List Sg) (x y k : Int) (hz : PlZ p) (hl : LogZ log) (hx : 0 ≤ x ∧ x ≤ 255) (hy : 0 ≤ y ∧ y ≤ 255) :
    FnA Try.prog 5 [.agg (pcs p), I bd, .sl 3 (log.map sgav), .v (.int .u8 x), .v (.int .u8 y), I k] (B true) := by
  have c0 := dHead_ok
  have c1 := dSmall_ok p log hz hl
  have hlg : (log.map sgav).length = log.length := by simp
  have hld : (p.duties.map duav).length = p.duties.length := by simp
  by_cases hs : smallG p log = true
  · obtain ⟨h1, h2⟩ := smallG_s hs
    rw [hs] at c1
    by_cases h0 : 0 < p.duties.length
    · have hx0 : 0 ≤ x % ((p.duties.map duav).length : Int) := Int.emod_nonneg _ (by omega)
      have hx1 : x % ((p.duties.map duav).length : Int) < ((p.duties.map duav).length : Int) := Int.emod_lt_of_pos _ (by omega)
      have hy0 : 0 ≤ y % ((p.duties.map duav).length : Int) := Int.emod_nonneg _ (by omega)
      have hy1 : y % ((p.duties.map duav).length : Int) < ((p.duties.map duav).length : Int) := Int.emod_lt_of_pos _ (by omega)
      have hdz := h1.du
      have hx2 := hx0
      have hx3 := hx1
      have hy2 := hy0
      have hy3 := hy1
      rw [hld] at hx2 hx3 hy2 hy3
      refine fn_run (T := tab) Try.func5 rfl Try.ntmps5 rfl Try.results5 (fun _ => ?_)
      repeat' ((conv => whnf) <;> (first | (refine Kx.eff rfl (Eff.stRA (T := tab) 0 rfl rfl rfl rfl rfl (Nat.zero_le _) (by simp only [List.length_set, List.nil_append, List.length_map]; omega) rfl rfl) (by rintro _ _ ⟨rfl, rfl⟩; exact Qs) ?_ <;> rintro _ _ ⟨rfl, rfl⟩) | refine Ask.idxR (T := tab) 0 rfl rfl rfl rfl (fun _ => by simp only [List.length_set, List.nil_append, List.length_map]; omega) ?_ | refine CK.anyK [0, 1, 2, 3, 4, 5, 6, 7, 8, 9, 10, 11, 12, 13, 14, 15] [16, 17, 18, 19] _ (List.Sublist.cons _ (List.Sublist.refl _)) Qk ?_ | refine Must.mk (fun h => h) ?_ | refine Must.mk (fun _ => rfl) ?_ | refine Must.mk Qw ?_ | refine MW.ok Qw ?_ | intro _ | exact Fin.pure rfl | refine Br.tt ?_ | refine Br.ff ?_ | (refine Br.mk (fun h => ?_) (fun h => ?_) <;> (try simp only [sh] at h) <;> (try first | (exfalso; omega) | exact absurd trivial h | (exfalso; simp at h; done))) | refine Ix.at ‹_› Qw ?_ | refine Ix.mapN Qw ?_ | refine Ix.mapN1 Qw ?_ | refine Ix.map Qw ?_ | refine Ix.at Qi Qw ?_ | refine Rem.nn Qw ?_ | refine Rem.t Qw ?_ | refine LK.callA ent6 (c0) rfl rfl (SbL.refl _) ?_ | refine Ask.callA ent6 (fun h => c0) rfl rfl (SbL.refl _) ?_ | refine LK.callA ent6 (c0) rfl rfl Ql ?_ | refine Ask.callA ent6 (fun h => c0) rfl rfl Ql ?_ | refine LK.callA ent7 (c1) rfl rfl (SbL.refl _) ?_ | refine Ask.callA ent7 (fun h => c1) rfl rfl (SbL.refl _) ?_ | refine LK.callA ent7 (c1) rfl rfl Ql ?_ | refine Ask.callA ent7 (fun h => c1) rfl rfl Ql ?_ | refine lB (T := tab) ?_ | refine lBA (T := tab) ?_ | refine nR (T := tab) ?_ | refine iR (T := tab) ?_ | refine lR (T := tab) ?_ | refine lR0 (T := tab) ?_ | refine lRA (T := tab) ?_ | refine LK.askW rfl ?_ | refine s1 ?_ | refine sA ?_ | refine pS (T := tab) ?_ | refine LK.bsl rfl rfl rfl rfl ?_ | (refine LK.frzR 0 rfl ?_ <;> refine pF ?_) | refine pA ?_ | refine sR ?_ | refine LK.gr (Gr.bslV (T := tab) rfl rfl rfl rfl) ?_ | refine Ask.of (Gr.bslV (T := tab) rfl rfl rfl rfl) ?_ | refine Kx.nil ?_ | refine Kx.stp (T := tab) rfl rfl Qs ?_ | refine kA (T := tab) ?_ | (refine Kx.eff rfl (Eff.stRA (T := tab) 0 rfl rfl rfl rfl rfl (Nat.zero_le _) Qo rfl Q1) (by rintro _ _ ⟨rfl, rfl⟩; exact Qs) ?_ <;> rintro _ _ ⟨rfl, rfl⟩) | (refine Kx.eff rfl (Eff.stRA (T := tab) 1 rfl rfl rfl rfl rfl (Nat.zero_le _) Qo rfl Q1) (by rintro _ _ ⟨rfl, rfl⟩; exact Qs) ?_ <;> rintro _ _ ⟨rfl, rfl⟩) | (refine Kx.eff rfl (Eff.stRA (T := tab) 2 rfl rfl rfl rfl rfl (Nat.zero_le _) Qo rfl Q1) (by rintro _ _ ⟨rfl, rfl⟩; exact Qs) ?_ <;> rintro _ _ ⟨rfl, rfl⟩) | (refine Kx.eff rfl (Eff.stRA (T := tab) 3 rfl rfl rfl rfl rfl (Nat.zero_le _) Qo rfl Q1) (by rintro _ _ ⟨rfl, rfl⟩; exact Qs) ?_ <;> rintro _ _ ⟨rfl, rfl⟩) | (refine Kx.eff rfl (Eff.stRA (T := tab) 4 rfl rfl rfl rfl rfl (Nat.zero_le _) Qo rfl Q1) (by rintro _ _ ⟨rfl, rfl⟩; exact Qs) ?_ <;> rintro _ _ ⟨rfl, rfl⟩) | (refine Kx.eff rfl (Eff.stRA (T := tab) 5 rfl rfl rfl rfl rfl (Nat.zero_le _) Qo rfl Q1) (by rintro _ _ ⟨rfl, rfl⟩; exact Qs) ?_ <;> rintro _ _ ⟨rfl, rfl⟩) | refine kS (T := tab) ?_ | (refine Kx.frzR 0 rfl ?_ <;> refine kF (T := tab) ?_) | refine kP (T := tab) ?_ | refine k1 (T := tab) ?_ | refine kB (T := tab) ?_ | refine kL (T := tab) ?_ | refine CK.any false Qk ?_ | refine CK.any true Qk ?_ | fail))
      conv => whnf
      have hset : ((([] : List AV) ++ p.duties.map duav).set (x % ((p.duties.map duav).length : Int)).toNat (AV.agg [I (p.duties.getD (y % ((p.duties.map duav).length : Int)).toNat default).frm, I (p.duties.getD (y % ((p.duties.map duav).length : Int)).toNat default).to_, I (p.duties.getD (y % ((p.duties.map duav).length : Int)).toNat default).skill])).set (y % ((p.duties.map duav).length : Int)).toNat (AV.agg [I (p.duties.getD (x % ((p.duties.map duav).length : Int)).toNat default).frm, I (p.duties.getD (x % ((p.duties.map duav).length : Int)).toNat default).to_, I (p.duties.getD (x % ((p.duties.map duav).length : Int)).toNat default).skill]) = (swL (x % ((p.duties.map duav).length : Int)).toNat (y % ((p.duties.map duav).length : Int)).toNat p.duties).map duav := swap_set duav (by omega) (by omega)
      rw [hset]
      have co : ∀ l : Lt, FnA Try.prog 10 [I l.du, I (x % ((p.duties.map duav).length : Int)), I (y % ((p.duties.map duav).length : Int))] (I (renL (x % ((p.duties.map duav).length : Int)).toNat (y % ((p.duties.map duav).length : Int)).toNat l).du) := fun l => by
        have := dOther_ok l.du (x % ((p.duties.map duav).length : Int)) (y % ((p.duties.map duav).length : Int))
        show FnA _ _ _ (I (swI ((x % ((p.duties.map duav).length : Int)).toNat : Int) ((y % ((p.duties.map duav).length : Int)).toNat : Int) l.du))
        rw [Int.toNat_of_nonneg hx0, Int.toNat_of_nonneg hy0]
        exact this
      have sa := uStep_ok p bd log k h1 h2
      have sb := uStep_ok _ bd _ k (small_ren (a := (x % ((p.duties.map duav).length : Int)).toNat) (b := (y % ((p.duties.map duav).length : Int)).toNat) h1) (logS_ren (a := (x % ((p.duties.map duav).length : Int)).toNat) (b := (y % ((p.duties.map duav).length : Int)).toNat) h2)
      have ka := uCheck_ok p bd log h1 h2
      have kb := uCheck_ok _ bd _ (small_ren (a := (x % ((p.duties.map duav).length : Int)).toNat) (b := (y % ((p.duties.map duav).length : Int)).toNat) h1) (logS_ren (a := (x % ((p.duties.map duav).length : Int)).toNat) (b := (y % ((p.duties.map duav).length : Int)).toNat) h2)
      rw [step_ren (by omega) (by omega)] at sb
      rw [check_ren (by omega) (by omega)] at kb
      refine CK.nilrow 42 3 ?_
      (conv => whnf); refine CK.loopK [18, 20, 21, 23, 71, 72, 73, 74, 75, 76, 77, 78, 79, 80, 81, 82, 83, 84, 85, 86, 87, 88, 89, 90, 91, 92, 93, 94, 95, 96, 97, 98, 99, 100, 101, 102, 103, 104, 105] (σ := Nat × Value) (fun s => s.1 ≤ log.length) (fun ⟨i, v⟩ => [(71, I i), (18, .v v)]) (fun ⟨i, v⟩ => [.row v 42 3 0 false ((log.take i).map fun s => sgav (renS (x % ((p.duties.map duav).length : Int)).toNat (y % ((p.duties.map duav).length : Int)).toNat s))]) _ (fun s => log.length - s.1) (0, .slice none 0 0) (Nat.zero_le _) Qy (List.Sublist.refl _) ?_
      conv => whnf
      rintro ⟨i, v⟩ i1
      simp only at i1
      have hll := h2.l
      by_cases hi : i < log.length
      · have hc := (h2.cl _ (gAt hi)).1
        have hlc : ((log.getD i default).cl.map ltav).length = (log.getD i default).cl.length := by simp
        repeat' ((conv => whnf) <;> (first | refine Must.mk (fun h => h) ?_ | refine Must.mk (fun _ => rfl) ?_ | refine Must.mk Qw ?_ | refine MW.ok Qw ?_ | intro _ | exact Fin.pure rfl | refine Br.tt ?_ | refine Br.ff ?_ | (refine Br.mk (fun h => ?_) (fun h => ?_) <;> (try simp only [sh] at h) <;> (try first | (exfalso; omega) | exact absurd trivial h | (exfalso; simp at h; done))) | refine Ix.at ‹_› Qw ?_ | refine Ix.mapN Qw ?_ | refine Ix.mapN1 Qw ?_ | refine Ix.map Qw ?_ | refine Ix.at Qi Qw ?_ | refine Rem.nn Qw ?_ | refine Rem.t Qw ?_ | refine lB (T := tab) ?_ | refine lBA (T := tab) ?_ | refine LK.askW rfl ?_ | refine s1 ?_ | refine sA ?_ | refine pS (T := tab) ?_ | refine LK.gr (Gr.bslV (T := tab) rfl rfl rfl rfl) ?_ | refine Ask.of (Gr.bslV (T := tab) rfl rfl rfl rfl) ?_ | refine Kx.nil ?_ | refine Kx.stp (T := tab) rfl rfl Qs ?_ | refine kA (T := tab) ?_ | refine kS (T := tab) ?_ | (refine Kx.frzR 0 rfl ?_ <;> refine kF (T := tab) ?_) | refine kP (T := tab) ?_ | refine k1 (T := tab) ?_ | refine kB (T := tab) ?_ | refine kL (T := tab) ?_ | refine CK.any false Qk ?_ | refine CK.any true Qk ?_ | fail))
        conv => whnf
        refine CK.nilrow 47 3 ?_
        (conv => whnf); refine CK.loopK [21, 23, 78, 79, 80, 81, 82, 83, 84, 85, 86, 87, 88, 89, 90, 91, 92, 93, 94, 95] (σ := Nat × Option Addr × Nat × Nat) (fun s => s.1 ≤ (log.getD i default).cl.length) (fun ⟨j, A, q, cp⟩ => [(78, I j), (21, .v (.slice A q cp))]) (fun ⟨j, A, q, cp⟩ => [.row (.slice A q cp) 47 3 0 false (((log.getD i default).cl.take j).map fun l => ltav (renL (x % ((p.duties.map duav).length : Int)).toNat (y % ((p.duties.map duav).length : Int)).toNat l))]) _ (fun s => (log.getD i default).cl.length - s.1) (0, none, 0, 0) (Nat.zero_le _) Qy (List.Sublist.refl _) ?_
        conv => whnf
        rintro ⟨j, wA, wq, wc⟩ j1
        simp only at j1
        by_cases hj : j < (log.getD i default).cl.length
        · have co := co ((log.getD i default).cl.getD j default)
          have hjl : (((log.getD i default).cl.take j).map fun l => ltav (renL (x % ((p.duties.map duav).length : Int)).toNat (y % ((p.duties.map duav).length : Int)).toNat l)).length = j := by rw [List.length_map, List.length_take]; omega
          repeat' ((conv => whnf) <;> (first | refine CK.anyK [0, 1, 2, 3, 4, 5, 6, 7, 8, 9, 10, 11] [12, 13] _ (List.Sublist.cons_cons _ (List.Sublist.cons _ (List.Sublist.refl _))) Qk ?_ | refine Must.mk (fun h => h) ?_ | refine Must.mk (fun _ => rfl) ?_ | refine Must.mk Qw ?_ | refine MW.ok Qw ?_ | intro _ | exact Fin.pure rfl | refine Br.tt ?_ | refine Br.ff ?_ | (refine Br.mk (fun h => ?_) (fun h => ?_) <;> (try simp only [sh] at h) <;> (try first | (exfalso; omega) | exact absurd trivial h | (exfalso; simp at h; done))) | refine Ix.at ‹_› Qw ?_ | refine Ix.mapN Qw ?_ | refine Ix.mapN1 Qw ?_ | refine Ix.map Qw ?_ | refine Ix.at Qi Qw ?_ | refine Rem.nn Qw ?_ | refine Rem.t Qw ?_ | refine LK.callA ent10 (co) rfl rfl (SbL.refl _) ?_ | refine Ask.callA ent10 (fun h => co) rfl rfl (SbL.refl _) ?_ | refine LK.callA ent10 (co) rfl rfl Ql ?_ | refine Ask.callA ent10 (fun h => co) rfl rfl Ql ?_ | refine lB (T := tab) ?_ | refine lBA (T := tab) ?_ | refine LK.askW rfl ?_ | refine s1 ?_ | refine sA ?_ | refine pS (T := tab) ?_ | refine LK.gr (Gr.bslV (T := tab) rfl rfl rfl rfl) ?_ | refine Ask.of (Gr.bslV (T := tab) rfl rfl rfl rfl) ?_ | refine Kx.nil ?_ | refine Kx.stp (T := tab) rfl rfl Qs ?_ | refine kA (T := tab) ?_ | refine kS (T := tab) ?_ | (refine Kx.frzR 0 rfl ?_ <;> refine kF (T := tab) ?_) | refine kP (T := tab) ?_ | refine k1 (T := tab) ?_ | refine kB (T := tab) ?_ | refine kL (T := tab) ?_ | refine CK.any false Qk ?_ | refine CK.any true Qk ?_ | fail))
          rename_i A q cp
          (conv => whnf); (refine Nxt.of ((j + 1, A, q, cp)) [21, 23, 78, 79, 80, 81, 82, 83, 84, 85, 86, 87, 88, 89, 90, 91, 92, 93, 94, 95] Qr Qr Qr ?_ ?_ Qy ?_ <;> (try dsimp only) <;> (try omega))
          have hset2 : (((log.getD i default).cl.take j).map fun l => ltav (renL (x % ((p.duties.map duav).length : Int)).toNat (y % ((p.duties.map duav).length : Int)).toNat l)) ++ [ltav (renL (x % ((p.duties.map duav).length : Int)).toNat (y % ((p.duties.map duav).length : Int)).toNat ((log.getD i default).cl.getD j default))] = ((log.getD i default).cl.take (j + 1)).map fun l => ltav (renL (x % ((p.duties.map duav).length : Int)).toNat (y % ((p.duties.map duav).length : Int)).toNat l) := by
            rw [List.take_succ_eq_append_getElem hj, ← getD_at hj, List.map_append]
            rfl
          rw [← hset2]
          exact Qs
        · obtain rfl : j = (log.getD i default).cl.length := by omega
          dsimp only
          rw [List.take_length]
          have hil : ((log.take i).map fun s => sgav (renS (x % ((p.duties.map duav).length : Int)).toNat (y % ((p.duties.map duav).length : Int)).toNat s)).length = i := by rw [List.length_map, List.length_take]; omega
          repeat' ((conv => whnf) <;> (first | (refine LK.frzR 0 rfl ?_ <;> refine LK.see 102 rfl (Sb.agg (.cons (Sb.row 0 rfl) (SbL.refl _))) ?_) | refine Must.mk (fun h => h) ?_ | refine Must.mk (fun _ => rfl) ?_ | refine Must.mk Qw ?_ | refine MW.ok Qw ?_ | intro _ | exact Fin.pure rfl | refine Br.tt ?_ | refine Br.ff ?_ | (refine Br.mk (fun h => ?_) (fun h => ?_) <;> (try simp only [sh] at h) <;> (try first | (exfalso; omega) | exact absurd trivial h | (exfalso; simp at h; done))) | refine Ix.at ‹_› Qw ?_ | refine Ix.mapN Qw ?_ | refine Ix.mapN1 Qw ?_ | refine Ix.map Qw ?_ | refine Ix.at Qi Qw ?_ | refine Rem.nn Qw ?_ | refine Rem.t Qw ?_ | refine lB (T := tab) ?_ | refine lBA (T := tab) ?_ | refine LK.askW rfl ?_ | refine s1 ?_ | refine sA ?_ | refine pS (T := tab) ?_ | refine LK.gr (Gr.bslV (T := tab) rfl rfl rfl rfl) ?_ | refine Ask.of (Gr.bslV (T := tab) rfl rfl rfl rfl) ?_ | refine Kx.nil ?_ | refine Kx.stp (T := tab) rfl rfl Qs ?_ | refine kA (T := tab) ?_ | refine kS (T := tab) ?_ | (refine Kx.frzR 0 rfl ?_ <;> refine kF (T := tab) ?_) | refine kP (T := tab) ?_ | refine k1 (T := tab) ?_ | refine kB (T := tab) ?_ | refine kL (T := tab) ?_ | refine CK.any false Qk ?_ | refine CK.any true Qk ?_ | fail))
          rename_i A q cp
          (conv => whnf); (refine Nxt.of ((i + 1, Value.slice A q cp)) [18, 20, 21, 23, 71, 72, 73, 74, 75, 76, 77, 78, 79, 80, 81, 82, 83, 84, 85, 86, 87, 88, 89, 90, 91, 92, 93, 94, 95, 96, 97, 98, 99, 100, 101, 102, 103, 104, 105] Qr Qr Qr ?_ ?_ Qy ?_ <;> (try dsimp only) <;> (try omega))
          have hset3 : ((log.take i).map fun s => sgav (renS (x % ((p.duties.map duav).length : Int)).toNat (y % ((p.duties.map duav).length : Int)).toNat s)) ++ [AV.agg [.sl 3 ((log.getD i default).cl.map fun l => ltav (renL (x % ((p.duties.map duav).length : Int)).toNat (y % ((p.duties.map duav).length : Int)).toNat l)), I (log.getD i default).rule, .sl 1 ((log.getD i default).frm.map I)]] = (log.take (i + 1)).map fun s => sgav (renS (x % ((p.duties.map duav).length : Int)).toNat (y % ((p.duties.map duav).length : Int)).toNat s) := by
            rw [List.take_succ_eq_append_getElem hi, ← getD_at hi, List.map_append, List.map_cons, List.map_nil]
            congr 2
            show AV.agg _ = AV.agg [.sl 3 (((log.getD i default).cl.map (renL (x % ((p.duties.map duav).length : Int)).toNat (y % ((p.duties.map duav).length : Int)).toNat)).map ltav), I (log.getD i default).rule, .sl 1 ((log.getD i default).frm.map I)]
            rw [List.map_map]
            rfl
          rw [← hset3]
          exact Qs
      · obtain rfl : i = log.length := by omega
        dsimp only
        rw [List.take_length]
        rw [List.map_map] at sb kb
        repeat' ((conv => whnf) <;> (first | refine CK.frzR1 1 rfl ?_ | refine CK.frzR1 0 rfl ?_ | refine Must.mk (fun h => h) ?_ | refine Must.mk (fun _ => rfl) ?_ | refine Must.mk Qw ?_ | refine MW.ok Qw ?_ | intro _ | exact Fin.pure rfl | refine Br.tt ?_ | refine Br.ff ?_ | (refine Br.mk (fun h => ?_) (fun h => ?_) <;> (try simp only [sh] at h) <;> (try first | (exfalso; omega) | exact absurd trivial h | (exfalso; simp at h; done))) | refine Ix.at ‹_› Qw ?_ | refine Ix.mapN Qw ?_ | refine Ix.mapN1 Qw ?_ | refine Ix.map Qw ?_ | refine Ix.at Qi Qw ?_ | refine Rem.nn Qw ?_ | refine Rem.t Qw ?_ | refine LK.callA ent9 (sa) rfl rfl (SbL.refl _) ?_ | refine Ask.callA ent9 (fun h => sa) rfl rfl (SbL.refl _) ?_ | refine LK.callA ent9 (sa) rfl rfl Ql ?_ | refine Ask.callA ent9 (fun h => sa) rfl rfl Ql ?_ | refine LK.callA ent9 (sb) rfl rfl (SbL.refl _) ?_ | refine Ask.callA ent9 (fun h => sb) rfl rfl (SbL.refl _) ?_ | refine LK.callA ent9 (sb) rfl rfl Ql ?_ | refine Ask.callA ent9 (fun h => sb) rfl rfl Ql ?_ | refine LK.callA ent8 (ka) rfl rfl (SbL.refl _) ?_ | refine Ask.callA ent8 (fun h => ka) rfl rfl (SbL.refl _) ?_ | refine LK.callA ent8 (ka) rfl rfl Ql ?_ | refine Ask.callA ent8 (fun h => ka) rfl rfl Ql ?_ | refine LK.callA ent8 (kb) rfl rfl (SbL.refl _) ?_ | refine Ask.callA ent8 (fun h => kb) rfl rfl (SbL.refl _) ?_ | refine LK.callA ent8 (kb) rfl rfl Ql ?_ | refine Ask.callA ent8 (fun h => kb) rfl rfl Ql ?_ | refine lB (T := tab) ?_ | refine lBA (T := tab) ?_ | refine LK.askW rfl ?_ | refine s1 ?_ | refine sA ?_ | refine pS (T := tab) ?_ | refine LK.gr (Gr.bslV (T := tab) rfl rfl rfl rfl) ?_ | refine Ask.of (Gr.bslV (T := tab) rfl rfl rfl rfl) ?_ | refine Kx.nil ?_ | refine Kx.stp (T := tab) rfl rfl Qs ?_ | refine kA (T := tab) ?_ | refine kS (T := tab) ?_ | (refine Kx.frzR 0 rfl ?_ <;> refine kF (T := tab) ?_) | refine kP (T := tab) ?_ | refine k1 (T := tab) ?_ | refine kB (T := tab) ?_ | refine kL (T := tab) ?_ | refine CK.any false Qk ?_ | refine CK.any true Qk ?_ | fail))
        conv => whnf
        refine Fin.pure (congrArg B ?_)
        simp
    · refine fn_run (T := tab) Try.func5 rfl Try.ntmps5 rfl Try.results5 (fun _ => ?_)
      repeat' ((conv => whnf) <;> (first | refine Must.mk (fun h => h) ?_ | refine Must.mk (fun _ => rfl) ?_ | refine Must.mk Qw ?_ | refine MW.ok Qw ?_ | intro _ | exact Fin.pure rfl | refine Fin.pure ?_ | refine Br.tt ?_ | refine Br.ff ?_ | (refine Br.mk (fun h => ?_) (fun h => ?_) <;> (try simp only [sh] at h) <;> (try first | (exfalso; omega) | exact absurd trivial h | (exfalso; simp at h; done))) | refine Ix.at ‹_› Qw ?_ | refine Ix.mapN Qw ?_ | refine Ix.mapN1 Qw ?_ | refine Ix.map Qw ?_ | refine Ix.at Qi Qw ?_ | refine Rem.nn Qw ?_ | refine Rem.t Qw ?_ | refine LK.callA ent6 (c0) rfl rfl (SbL.refl _) ?_ | refine Ask.callA ent6 (fun h => c0) rfl rfl (SbL.refl _) ?_ | refine LK.callA ent6 (c0) rfl rfl Ql ?_ | refine Ask.callA ent6 (fun h => c0) rfl rfl Ql ?_ | refine LK.callA ent7 (c1) rfl rfl (SbL.refl _) ?_ | refine Ask.callA ent7 (fun h => c1) rfl rfl (SbL.refl _) ?_ | refine LK.callA ent7 (c1) rfl rfl Ql ?_ | refine Ask.callA ent7 (fun h => c1) rfl rfl Ql ?_ | refine lB (T := tab) ?_ | refine lBA (T := tab) ?_ | refine LK.askW rfl ?_ | refine s1 ?_ | refine sA ?_ | refine CK.any false Qk ?_ | fail))
  · rw [Bool.eq_false_iff.2 hs] at c1
    refine fn_run (T := tab) Try.func5 rfl Try.ntmps5 rfl Try.results5 (fun _ => ?_)
    repeat' ((conv => whnf) <;> (first | refine Must.mk (fun h => h) ?_ | refine Must.mk (fun _ => rfl) ?_ | refine Must.mk Qw ?_ | refine MW.ok Qw ?_ | intro _ | exact Fin.pure rfl | refine Fin.pure ?_ | refine Br.tt ?_ | refine Br.ff ?_ | (refine Br.mk (fun h => ?_) (fun h => ?_) <;> (try simp only [sh] at h) <;> (try first | (exfalso; omega) | exact absurd trivial h | (exfalso; simp at h; done))) | refine Ix.at ‹_› Qw ?_ | refine Ix.mapN Qw ?_ | refine Ix.mapN1 Qw ?_ | refine Ix.map Qw ?_ | refine Ix.at Qi Qw ?_ | refine Rem.nn Qw ?_ | refine Rem.t Qw ?_ | refine LK.callA ent6 (c0) rfl rfl (SbL.refl _) ?_ | refine Ask.callA ent6 (fun h => c0) rfl rfl (SbL.refl _) ?_ | refine LK.callA ent6 (c0) rfl rfl Ql ?_ | refine Ask.callA ent6 (fun h => c0) rfl rfl Ql ?_ | refine LK.callA ent7 (c1) rfl rfl (SbL.refl _) ?_ | refine Ask.callA ent7 (fun h => c1) rfl rfl (SbL.refl _) ?_ | refine LK.callA ent7 (c1) rfl rfl Ql ?_ | refine Ask.callA ent7 (fun h => c1) rfl rfl Ql ?_ | refine lB (T := tab) ?_ | refine lBA (T := tab) ?_ | refine LK.askW rfl ?_ | refine s1 ?_ | refine sA ?_ | refine CK.any false Qk ?_ | fail))
end Go.Proofs.Ythjllgabmgkocaa
