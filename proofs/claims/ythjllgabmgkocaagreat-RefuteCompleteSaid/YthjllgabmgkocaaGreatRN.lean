/-
  Walks: the builder of RefuteComplete; RefuteComplete.
  Conditions: those of each theorem.
-/
import Derived.Test.YthjllgabmgkocaaGreatRG9
import Derived.Test.YthjllgabmgkocaaGreatRM
import Derived.Test.YthjllgabmgkocaaGreatRO9
import Derived.Test.YthjllgabmgkocaaGreatRF2
namespace Go.Proofs.YthjllgabmgkocaaGreat
open Go.E2 Go.Wage
def bdcs (p : Pl) (b : Int) (v : Value) : List AV := [.v (.string p.zone.name), I p.zone.base, .sl 2 (p.zone.chs.map chav), .sl 3 (p.duties.map duav), .sl 5 (p.workers.map wkav), I p.lim.rest, I p.lim.week, I p.lim.night.1, I p.lim.night.2, I p.lim.minor, I b, .v v]
abbrev Bd (g : Nat) (p : Pl) (b : Int) (v : Value) : Ent := .blk g 49 false (bdcs p b v)
abbrev Lg (v : Value) (log : List Sg) : Ent := .row v 43 3 0 false (log.map sgav)
abbrev LgP (g : Nat) (p : Pl) (b : Int) (R : List Ent) (k : Int) (log : List Sg) : AV → List Ent → Prop := fun a L' => ∃ A q cp, a = I k ∧ L' = Lg (.slice A q cp) log :: Bd g p b (.slice A q cp) :: R
set_option maxRecDepth 4000 in
set_option maxHeartbeats 4000000 in
theorem dAdd_ok {c : Ctx} (p : Pl) (b : Int) (g : Nat) (A : Option Addr) (q cp : Nat) (log : List Sg) (s : Sg) (R : List Ent) (hl : log.length ≤ 1000000) :
    FnL Tryz.prog c 29 [pt g, sgav s] (Lg (.slice A q cp) log :: Bd g p b (.slice A q cp) :: R) (LgP g p b R log.length (log ++ [s])) := by
  have hlg : (log.map sgav).length = log.length := by simp
  have hlg2 : (log.map sgav ++ [AV.agg [.sl 3 (s.cl.map ltav), I s.rule, .sl 1 (s.frm.map I)]]).length = log.length + 1 := by simp
  refine fnL_run (T := tab) Tryz.func29 rfl Tryz.ntmps29 rfl Tryz.results29 (fun _ hw0 => ?_)
  repeat' ((conv => whnf) <;> (first | refine nR (T := tab) ?_ | refine CK.anyK [0, 1, 2, 3, 5, 6] [4, 7, 8, 9, 10] _ (List.Sublist.cons_cons _ (List.Sublist.cons _ (List.Sublist.cons _ (List.Sublist.refl _)))) Qk ?_ | refine Must.mk (fun h => h) ?_ | refine Must.mk (fun _ => rfl) ?_ | refine Must.mk Qw ?_ | refine MW.ok Qw ?_ | intro _ | exact Fin.pure rfl | refine Br.tt ?_ | refine Br.ff ?_ | (refine Br.mk (fun h => ?_) (fun h => ?_) <;> (try simp only [sh] at h) <;> (try first | (exfalso; omega) | exact absurd trivial h | (exfalso; simp at h; done))) | refine Ix.at ‹_› Qw ?_ | refine Ix.mapN Qw ?_ | refine Ix.mapN1 Qw ?_ | refine Ix.map Qw ?_ | refine Ix.at Qi Qw ?_ | refine lB (T := tab) ?_ | refine lBA (T := tab) ?_ | refine LK.askW rfl ?_ | refine s1 ?_ | refine sA ?_ | refine pS (T := tab) ?_ | refine LK.gr (Gr.bslV (T := tab) rfl rfl rfl rfl) ?_ | refine Ask.of (Gr.bslV (T := tab) rfl rfl rfl rfl) ?_ | refine Kx.nil ?_ | refine Kx.stp (T := tab) rfl rfl Qs ?_ | refine kA (T := tab) ?_ | refine kS (T := tab) ?_ | (refine Kx.frzR 0 rfl ?_ <;> refine kF (T := tab) ?_) | refine kP (T := tab) ?_ | refine k1 (T := tab) ?_ | refine kB (T := tab) ?_ | refine kL (T := tab) ?_ | refine CK.any false Qk ?_ | refine CK.any true Qk ?_ | fail))
  conv => whnf
  have hlg3 : log.map sgav ++ [AV.agg [.sl 3 (s.cl.map ltav), I s.rule, .sl 1 (s.frm.map I)]] = (log ++ [s]).map sgav := by rw [List.map_append]; rfl
  rename_i A2 q2 cp2
  refine .out (Lg (.slice A2 q2 cp2) (log ++ [s]) :: Bd g p b (.slice A2 q2 cp2) :: R) ?_ ⟨_, _, _, congrArg I (by omega), rfl⟩
  rw [Lg, ← hlg3]
  exact Qs
theorem set_In (l : List Int) (a : Nat) (x : Int) : (l.map I).set a ((I (l.getD a default)).setCell 0 (I x)) = (l.set a x).map I := by
  rw [List.map_set]; rfl
theorem part_len (f : List Int) (m : Nat) : (partF f m).length = f.length + m := by simp [partF]
theorem part_get {f : List Int} {m i : Nat} : (partF f m).getD i default = if i < f.length then f.getD i default else if i < f.length + m then -1 else default := by
  unfold partF
  by_cases h : i < f.length
  · rw [if_pos h, getD_app h]
  · rw [if_neg h]
    by_cases h2 : i < f.length + m
    · rw [if_pos h2]
      simp [List.getD, List.getElem?_append_right (Nat.le_of_not_lt h), List.getElem?_replicate]
      rw [if_pos (by omega)]; rfl
    · rw [if_neg h2]
      simp [List.getD, List.getElem?_append_right (Nat.le_of_not_lt h), List.getElem?_replicate]
      rw [if_neg (by omega)]; rfl
/-- the part while it is laid -/
def layF (f : List Int) (m i : Nat) : List Int := (partF f m).take i ++ List.replicate (f.length + m - i) 0
theorem lay_len {f : List Int} {m i : Nat} (h : i ≤ f.length + m) : (layF f m i).length = f.length + m := by
  unfold layF
  rw [List.length_append, List.length_take, part_len, List.length_replicate]
  omega
theorem lay_set {f : List Int} {m i : Nat} (h : i < f.length + m) : (layF f m i).set i ((partF f m).getD i default) = layF f m (i + 1) := by
  unfold layF
  rw [take_snoc (l := partF f m) (by rw [part_len]; exact h), show f.length + m - i = (f.length + m - (i + 1)) + 1 by omega, List.replicate_succ, List.set_append_right _ _ (by rw [List.length_take, part_len]; omega)]
  rw [List.length_take, part_len, Nat.min_eq_left (by omega), Nat.sub_self, List.set_cons_zero, List.append_assoc]
  rfl
abbrev DenyOk (p : Pl) (b : Int) (m : Nat) : Prop := ∀ (f : List Int) (c : Ctx) (R : List Ent) (g : Nat) (A : Option Addr) (q cp : Nat) (log : List Sg), Pre p f m → log.length + szD p.workers.length m ≤ 100000 →
    FnL Tryz.prog c 16 [pt g, .sl 1 (f.map I)] (Lg (.slice A q cp) log :: Bd g p b (.slice A q cp) :: R) (LgP g p b R (denP p b m f log).1 (denP p b m f log).2)
theorem denP_bad {p : Pl} {b : Int} {m : Nat} {f : List Int} {log : List Sg} (h : badP p (partF f m) ≠ []) : denP p b m f log = ((log.length : Int), log ++ [⟨noL f, 3, []⟩]) := by
  cases m with
  | zero => rw [denP, if_pos h]
  | succ m => rw [denP, if_pos h]
theorem yes_snoc (d : Nat) (w : Nat) : yesL d (w + 1) = yesL d w ++ [⟨(d : Int), (w : Int), true⟩] := by
  unfold yesL
  rw [List.range_succ, List.map_append]
  rfl
set_option maxRecDepth 4000 in
set_option maxHeartbeats 16000000 in
theorem dDeny_st (p : Pl) (b : Int) (hs : Small p) (hv : validP p = true) (m : Nat) (ih : ∀ k, m = k + 1 → DenyOk p b k) : DenyOk p b m := fun f c R g A q cp log hp hl => by
  have hlen := hp.len
  have hpl := hp.l
  have hld : (p.duties.map duav).length = p.duties.length := by simp
  have hlw : (p.workers.map wkav).length = p.workers.length := by simp
  have hlf : (f.map I).length = f.length := by simp
  have hok : okRo p (partF f m) = true := by
    unfold okRo
    rw [hv, Bool.true_and]
    refine isRo_iff.2 ⟨by rw [part_len, hpl], fun w hw => ?_⟩
    unfold partF at hw
    rcases List.mem_append.1 hw with hw | hw
    · have := hp.w w hw; omega
    · rw [List.eq_of_mem_replicate hw]; omega
  have c1 := oBad_ok p (partF f m) hs
  have c2 := oCost_ok p (partF f m) hs
  rw [if_pos hok, if_pos hok] at c1 c2
  have hbl : ((badP p (partF f m)).map viav).length = (badP p (partF f m)).length := by simp
  refine fnL_run (T := tab) Tryz.func16 rfl Tryz.ntmps16 rfl Tryz.results16 (fun _ hw0 => ?_)
  repeat' ((conv => whnf) <;> (first | (refine LK.eff (Eff.mkS (T := tab) (N := p.duties.length) (z := .int .i64 0) rfl rfl rfl rfl (congrArg (fun q : Nat => some (I (q : Int))) hld) (by omega)) ?_ <;> rintro _ _ ⟨A1, B1, C1, rfl, rfl⟩) | refine Must.mk (fun h => h) ?_ | refine Must.mk (fun _ => rfl) ?_ | refine Must.mk Qw ?_ | refine MW.ok Qw ?_ | intro _ | exact Fin.pure rfl | refine Br.tt ?_ | refine Br.ff ?_ | (refine Br.mk (fun h => ?_) (fun h => ?_) <;> (try simp only [sh] at h) <;> (try first | (exfalso; omega) | exact absurd trivial h | (exfalso; simp at h; done))) | refine Ix.at ‹_› Qw ?_ | refine Ix.mapN Qw ?_ | refine Ix.mapN1 Qw ?_ | refine Ix.map Qw ?_ | refine Ix.at Qi Qw ?_ | refine lB (T := tab) ?_ | refine lBA (T := tab) ?_ | refine LK.askW rfl ?_ | refine s1 ?_ | refine sA ?_ | refine pS (T := tab) ?_ | refine Kx.nil ?_ | refine Kx.stp (T := tab) rfl rfl Qs ?_ | refine kA (T := tab) ?_ | refine kS (T := tab) ?_ | (refine Kx.frzR 0 rfl ?_ <;> refine kF (T := tab) ?_) | refine kP (T := tab) ?_ | refine k1 (T := tab) ?_ | refine kB (T := tab) ?_ | refine kL (T := tab) ?_ | refine CK.any false Qk ?_ | fail))
  refine CK.nilrow 45 3 ?_
  (conv => whnf); refine CK.loopK [5, 7, 24, 25, 26, 27, 28, 29, 30, 31, 32, 33, 34, 35, 36, 37, 38, 39, 40, 41, 42, 43, 44, 45, 46, 47, 48, 49, 50, 51, 52] (σ := Nat × Option Addr × Nat × Nat) (fun s => s.1 ≤ p.duties.length) (fun ⟨i, A2, q2, cp2⟩ => [(7, I i), (5, .v (.slice A2 q2 cp2))]) (fun ⟨i, A2, q2, cp2⟩ => [.row (.slice A2 q2 cp2) 45 3 0 false ((noL (f.take i)).map ltav), .row (.slice A1 B1 C1) 3 1 0 false ((layF f m i).map I)]) _ (fun s => p.duties.length - s.1) (0, none, 0, 0) (Nat.zero_le _) Qy (by
    have e : (layF f m 0).map I = List.replicate p.duties.length (AV.v (.int .i64 0)) := by unfold layF; rw [List.take_zero, List.nil_append, List.map_replicate, Nat.sub_zero, hpl]
    dsimp only
    rw [e]
    exact Qs) ?_
  conv => whnf
  rintro ⟨i, A2, q2, cp2⟩ i1
  simp only at i1
  have hll := lay_len (f := f) (m := m) (i := i) (by omega)
  have hll2 : ((layF f m i).map I).length = p.duties.length := by rw [List.length_map, hll, hpl]
  by_cases hi : i < p.duties.length
  · have hset1 := set_In (layF f m i) (i : Int).toNat (-1)
    have hpg := part_get (f := f) (m := m) (i := i)
    have hls := lay_set (f := f) (m := m) (i := i) (by omega)
    by_cases hif : i < f.length
    · rw [if_pos hif] at hpg
      have hset2 := set_In ((layF f m i).set (i : Int).toNat (-1)) (i : Int).toNat (f.getD i default)
      have hno := dNo_ok (i : Int) (f.getD i default)
      have hnl : ((noL (f.take i)).map ltav).length = i := by rw [List.length_map, noLo_len, List.length_take]; omega
      have hsl : ((layF f m i).set (i : Int).toNat (-1)).length = p.duties.length := by rw [List.length_set, hll, hpl]
      have hsl2 : (((layF f m i).set (i : Int).toNat (-1)).map I).length = p.duties.length := by rw [List.length_map, hsl]
      repeat' ((conv => whnf) <;> (first | refine LK.stRM (a := (i : Int).toNat) (j := 0) 1 rfl rfl rfl rfl rfl (Nat.zero_le _) (by omega) rfl rfl ?_ | refine iR (T := tab) ?_ | refine nR (T := tab) ?_ | refine Must.mk (fun h => h) ?_ | refine Must.mk (fun _ => rfl) ?_ | refine Must.mk Qw ?_ | refine MW.ok Qw ?_ | intro _ | exact Fin.pure rfl | refine Br.tt ?_ | refine Br.ff ?_ | (refine Br.mk (fun h => ?_) (fun h => ?_) <;> (try simp only [sh] at h) <;> (try first | (exfalso; omega) | exact absurd trivial h | (exfalso; simp at h; done))) | refine Ix.at ‹_› Qw ?_ | refine Ix.mapN Qw ?_ | refine Ix.mapN1 Qw ?_ | refine Ix.map Qw ?_ | refine Ix.at Qi Qw ?_ | refine lB (T := tab) ?_ | refine lBA (T := tab) ?_ | refine lM (T := tab) ?_ | refine lM0 (T := tab) ?_ | refine lMA (T := tab) ?_ | refine sM ?_ | refine LK.askW rfl ?_ | refine s1 ?_ | refine sA ?_ | refine pS (T := tab) ?_ | refine LK.gr (Gr.bslV (T := tab) rfl rfl rfl rfl) ?_ | refine Ask.of (Gr.bslV (T := tab) rfl rfl rfl rfl) ?_ | refine Kx.nil ?_ | refine Kx.stp (T := tab) rfl rfl Qs ?_ | refine kA (T := tab) ?_ | refine kS (T := tab) ?_ | (refine Kx.frzR 0 rfl ?_ <;> refine kF (T := tab) ?_) | refine kP (T := tab) ?_ | refine k1 (T := tab) ?_ | refine kB (T := tab) ?_ | refine kL (T := tab) ?_ | refine CK.any false Qk ?_ | refine CK.any true Qk ?_ | fail))
      rw [hset1]
      repeat' ((conv => whnf) <;> (first | refine LK.stRM (a := (i : Int).toNat) (j := 0) 1 rfl rfl rfl rfl rfl (Nat.zero_le _) (by omega) rfl rfl ?_ | refine iR (T := tab) ?_ | refine nR (T := tab) ?_ | refine Must.mk (fun h => h) ?_ | refine Must.mk (fun _ => rfl) ?_ | refine Must.mk Qw ?_ | refine MW.ok Qw ?_ | intro _ | exact Fin.pure rfl | refine Br.tt ?_ | refine Br.ff ?_ | (refine Br.mk (fun h => ?_) (fun h => ?_) <;> (try simp only [sh] at h) <;> (try first | (exfalso; omega) | exact absurd trivial h | (exfalso; simp at h; done))) | refine Ix.at ‹_› Qw ?_ | refine Ix.mapN Qw ?_ | refine Ix.mapN1 Qw ?_ | refine Ix.map Qw ?_ | refine Ix.at Qi Qw ?_ | refine LK.callA ent28 (hno) rfl rfl (SbL.refl _) ?_ | refine Ask.callA ent28 (fun h => hno) rfl rfl (SbL.refl _) ?_ | refine LK.callA ent28 (hno) rfl rfl Ql ?_ | refine Ask.callA ent28 (fun h => hno) rfl rfl Ql ?_ | refine lB (T := tab) ?_ | refine lBA (T := tab) ?_ | refine lM (T := tab) ?_ | refine lM0 (T := tab) ?_ | refine lMA (T := tab) ?_ | refine sM ?_ | refine LK.askW rfl ?_ | refine s1 ?_ | refine sA ?_ | refine pS (T := tab) ?_ | refine LK.gr (Gr.bslV (T := tab) rfl rfl rfl rfl) ?_ | refine Ask.of (Gr.bslV (T := tab) rfl rfl rfl rfl) ?_ | refine Kx.nil ?_ | refine Kx.stp (T := tab) rfl rfl Qs ?_ | refine kA (T := tab) ?_ | refine kS (T := tab) ?_ | (refine Kx.frzR 0 rfl ?_ <;> refine kF (T := tab) ?_) | refine kP (T := tab) ?_ | refine k1 (T := tab) ?_ | refine kB (T := tab) ?_ | refine kL (T := tab) ?_ | refine CK.any false Qk ?_ | refine CK.any true Qk ?_ | fail))
      rename_i A3 q3 cp3
      have hnx : (noL (f.take i)).map ltav ++ [ltav ⟨(i : Int), f.getD i default, false⟩] = (noL (f.take (i + 1))).map ltav := by
        rw [take_snoc hif, noL_snoc, List.map_append, List.length_take, Nat.min_eq_left (by omega)]
        rfl
      (conv => whnf); (refine Nxt.of ((i + 1, A3, q3, cp3)) [5, 7, 24, 25, 26, 27, 28, 29, 30, 31, 32, 33, 34, 35, 36, 37, 38, 39, 40, 41, 42, 43, 44, 45, 46, 47, 48, 49, 50, 51, 52] Qr Qr Qr ?_ ?_ Qy ?_ <;> (try dsimp only) <;> (try omega))
      have hss : ((layF f m i).set i (-1)).set i (f.getD i default) = layF f m (i + 1) := by rw [List.set_set, ← hpg, hls]
      rw [hset2, Int.toNat_natCast, hss, ← hnx]
      exact Qs
    · rw [if_neg hif, if_pos (by omega)] at hpg
      repeat' ((conv => whnf) <;> (first | refine LK.stRM (a := (i : Int).toNat) (j := 0) 1 rfl rfl rfl rfl rfl (Nat.zero_le _) (by omega) rfl rfl ?_ | refine iR (T := tab) ?_ | refine nR (T := tab) ?_ | refine Must.mk (fun h => h) ?_ | refine Must.mk (fun _ => rfl) ?_ | refine Must.mk Qw ?_ | refine MW.ok Qw ?_ | intro _ | exact Fin.pure rfl | refine Br.tt ?_ | refine Br.ff ?_ | (refine Br.mk (fun h => ?_) (fun h => ?_) <;> (try simp only [sh] at h) <;> (try first | (exfalso; omega) | exact absurd trivial h | (exfalso; simp at h; done))) | refine Ix.at ‹_› Qw ?_ | refine Ix.mapN Qw ?_ | refine Ix.mapN1 Qw ?_ | refine Ix.map Qw ?_ | refine Ix.at Qi Qw ?_ | refine lB (T := tab) ?_ | refine lBA (T := tab) ?_ | refine lM (T := tab) ?_ | refine lM0 (T := tab) ?_ | refine lMA (T := tab) ?_ | refine sM ?_ | refine LK.askW rfl ?_ | refine s1 ?_ | refine sA ?_ | refine pS (T := tab) ?_ | refine LK.gr (Gr.bslV (T := tab) rfl rfl rfl rfl) ?_ | refine Ask.of (Gr.bslV (T := tab) rfl rfl rfl rfl) ?_ | refine Kx.nil ?_ | refine Kx.stp (T := tab) rfl rfl Qs ?_ | refine kA (T := tab) ?_ | refine kS (T := tab) ?_ | (refine Kx.frzR 0 rfl ?_ <;> refine kF (T := tab) ?_) | refine kP (T := tab) ?_ | refine k1 (T := tab) ?_ | refine kB (T := tab) ?_ | refine kL (T := tab) ?_ | refine CK.any false Qk ?_ | refine CK.any true Qk ?_ | fail))
      (conv => whnf); (refine Nxt.of ((i + 1, A2, q2, cp2)) [5, 7, 24, 25, 26, 27, 28, 29, 30, 31, 32, 33, 34, 35, 36, 37, 38, 39, 40, 41, 42, 43, 44, 45, 46, 47, 48, 49, 50, 51, 52] Qr Qr Qr ?_ ?_ Qy ?_ <;> (try dsimp only) <;> (try omega))
      rw [hset1, ← hls, hpg, Int.toNat_natCast, List.take_of_length_le (show f.length ≤ i by omega), List.take_of_length_le (show f.length ≤ i + 1 by omega)]
      exact Qs
  obtain rfl : i = p.duties.length := by omega
  have e1 : f.take p.duties.length = f := List.take_of_length_le (by omega)
  have e2 : layF f m p.duties.length = partF f m := by
    unfold layF
    rw [hpl, Nat.sub_self, List.replicate_zero, List.append_nil, List.take_of_length_le (by rw [part_len, hpl]; exact Nat.le_refl _)]
  rw [e2] at hll hll2
  dsimp only
  rw [e1, e2]
  have hpr : (f.map I).length = (((partF f m).map I).length : Nat) ↔ m = 0 := by rw [hlf, hll2]; omega
  have hbz : 0 < ((badP p (partF f m)).map viav).length ↔ badP p (partF f m) ≠ [] := by rw [hbl, List.length_pos_iff]
  have e0 : ∀ {s : Sg}, (log ++ [s]).length = log.length + 1 := fun {s} => by simp
  have hsz : 1 ≤ szD p.workers.length m := by
    cases m with
    | zero => exact Nat.le_refl _
    | succ m => rw [szD]; omega
  by_cases hb : badP p (partF f m) = []
  · have hnb : ¬ 0 < ((badP p (partF f m)).map viav).length := fun h => hbz.1 h hb
    rw [hbl] at hnb
    cases m with
    | zero =>
      rw [denP, if_neg (fun h => h hb)]
      by_cases hcb : b ≤ costP p (partF f 0) p.duties ∧ 0 < f.length
      · rw [if_pos hcb]
        repeat' ((conv => whnf) <;> (first | (refine LK.frzR 0 rfl ?_ <;> refine LK.frzR 1 rfl ?_ <;> refine LK.see 5 rfl (Sb.row 0 rfl) ?_ <;> refine LK.see 6 rfl (Sb.row 1 rfl) ?_ <;> refine LK.see 58 rfl (Sb.row 1 rfl) ?_ <;> refine LK.sub (L' := Lg (.slice A q cp) log :: Bd g p b (.slice A q cp) :: R) Qs ?_ <;> refine LK.callA ent22 c1 rfl rfl (SbL.refl _) ?_) | refine nR (T := tab) ?_ | refine Must.mk (fun h => h) ?_ | refine Must.mk (fun _ => rfl) ?_ | refine Must.mk Qw ?_ | refine MW.ok Qw ?_ | intro _ | exact Fin.pure rfl | refine Br.tt ?_ | refine Br.ff ?_ | (refine Br.mk (fun h => ?_) (fun h => ?_) <;> (try simp only [sh] at h) <;> (try first | (exfalso; omega) | exact absurd trivial h | (exfalso; simp at h; done))) | refine Ix.at ‹_› Qw ?_ | refine Ix.mapN Qw ?_ | refine Ix.mapN1 Qw ?_ | refine Ix.map Qw ?_ | refine Ix.at Qi Qw ?_ | refine LK.callA ent23 (c2) rfl rfl (SbL.refl _) ?_ | refine Ask.callA ent23 (fun h => c2) rfl rfl (SbL.refl _) ?_ | refine LK.callA ent23 (c2) rfl rfl Ql ?_ | refine Ask.callA ent23 (fun h => c2) rfl rfl Ql ?_ | (refine LK.callL ent29 (dAdd_ok p b g A q cp log ⟨noL f, 4, []⟩ R (by omega)) rfl rfl Ql (fun _ _ hcall => ?_) <;> obtain ⟨A3, q3, cp3, rfl, rfl⟩ := hcall) | refine lB (T := tab) ?_ | refine lBA (T := tab) ?_ | refine lM (T := tab) ?_ | refine lM0 (T := tab) ?_ | refine lMA (T := tab) ?_ | refine sM ?_ | refine LK.askW rfl ?_ | refine s1 ?_ | refine sA ?_ | refine pS (T := tab) ?_ | refine LK.gr (Gr.bslV (T := tab) rfl rfl rfl rfl) ?_ | refine Ask.of (Gr.bslV (T := tab) rfl rfl rfl rfl) ?_ | refine Kx.nil ?_ | refine Kx.stp (T := tab) rfl rfl Qs ?_ | refine kA (T := tab) ?_ | refine kS (T := tab) ?_ | (refine Kx.frzR 0 rfl ?_ <;> refine kF (T := tab) ?_) | refine kP (T := tab) ?_ | refine k1 (T := tab) ?_ | refine kB (T := tab) ?_ | refine kL (T := tab) ?_ | refine CK.any false Qk ?_ | refine CK.any true Qk ?_ | fail))
        conv => whnf
        exact .out (Lg (.slice A3 q3 cp3) (log ++ [⟨noL f, 4, []⟩]) :: Bd g p b (.slice A3 q3 cp3) :: R) Qs ⟨_, _, _, rfl, rfl⟩
      · rw [if_neg hcb]
        repeat' ((conv => whnf) <;> (first | (refine LK.frzR 0 rfl ?_ <;> refine LK.frzR 1 rfl ?_ <;> refine LK.see 5 rfl (Sb.row 0 rfl) ?_ <;> refine LK.see 6 rfl (Sb.row 1 rfl) ?_ <;> refine LK.see 58 rfl (Sb.row 1 rfl) ?_ <;> refine LK.sub (L' := Lg (.slice A q cp) log :: Bd g p b (.slice A q cp) :: R) Qs ?_ <;> refine LK.callA ent22 c1 rfl rfl (SbL.refl _) ?_) | refine nR (T := tab) ?_ | refine Must.mk (fun h => h) ?_ | refine Must.mk (fun _ => rfl) ?_ | refine Must.mk Qw ?_ | refine MW.ok Qw ?_ | intro _ | exact Fin.pure rfl | refine Br.tt ?_ | refine Br.ff ?_ | (refine Br.mk (fun h => ?_) (fun h => ?_) <;> (try simp only [sh] at h) <;> (try first | (exfalso; omega) | exact absurd trivial h | (exfalso; simp at h; done))) | refine Ix.at ‹_› Qw ?_ | refine Ix.mapN Qw ?_ | refine Ix.mapN1 Qw ?_ | refine Ix.map Qw ?_ | refine Ix.at Qi Qw ?_ | refine LK.callA ent23 (c2) rfl rfl (SbL.refl _) ?_ | refine Ask.callA ent23 (fun h => c2) rfl rfl (SbL.refl _) ?_ | refine LK.callA ent23 (c2) rfl rfl Ql ?_ | refine Ask.callA ent23 (fun h => c2) rfl rfl Ql ?_ | refine lB (T := tab) ?_ | refine lBA (T := tab) ?_ | refine lM (T := tab) ?_ | refine lM0 (T := tab) ?_ | refine lMA (T := tab) ?_ | refine sM ?_ | refine LK.askW rfl ?_ | refine s1 ?_ | refine sA ?_ | refine pS (T := tab) ?_ | refine LK.gr (Gr.bslV (T := tab) rfl rfl rfl rfl) ?_ | refine Ask.of (Gr.bslV (T := tab) rfl rfl rfl rfl) ?_ | refine Kx.nil ?_ | refine Kx.stp (T := tab) rfl rfl Qs ?_ | refine kA (T := tab) ?_ | refine kS (T := tab) ?_ | (refine Kx.frzR 0 rfl ?_ <;> refine kF (T := tab) ?_) | refine kP (T := tab) ?_ | refine k1 (T := tab) ?_ | refine kB (T := tab) ?_ | refine kL (T := tab) ?_ | refine CK.any false Qk ?_ | refine CK.any true Qk ?_ | fail))
        conv => whnf
        exact .out (Lg (.slice A q cp) log :: Bd g p b (.slice A q cp) :: R) Qs ⟨_, _, _, rfl, rfl⟩
    | succ k =>
      repeat' ((conv => whnf) <;> (first | (refine LK.frzR 0 rfl ?_ <;> refine LK.frzR 1 rfl ?_ <;> refine LK.see 5 rfl (Sb.row 0 rfl) ?_ <;> refine LK.see 6 rfl (Sb.row 1 rfl) ?_ <;> refine LK.see 58 rfl (Sb.row 1 rfl) ?_ <;> refine LK.sub (L' := Lg (.slice A q cp) log :: Bd g p b (.slice A q cp) :: R) Qs ?_ <;> refine LK.callA ent22 c1 rfl rfl (SbL.refl _) ?_) | refine nR (T := tab) ?_ | refine Must.mk (fun h => h) ?_ | refine Must.mk (fun _ => rfl) ?_ | refine Must.mk Qw ?_ | refine MW.ok Qw ?_ | intro _ | exact Fin.pure rfl | refine Br.tt ?_ | refine Br.ff ?_ | (refine Br.mk (fun h => ?_) (fun h => ?_) <;> (try simp only [sh] at h) <;> (try first | (exfalso; omega) | exact absurd trivial h | (exfalso; simp at h; done))) | refine Ix.at ‹_› Qw ?_ | refine Ix.mapN Qw ?_ | refine Ix.mapN1 Qw ?_ | refine Ix.map Qw ?_ | refine Ix.at Qi Qw ?_ | refine LK.callA ent23 (c2) rfl rfl (SbL.refl _) ?_ | refine Ask.callA ent23 (fun h => c2) rfl rfl (SbL.refl _) ?_ | refine LK.callA ent23 (c2) rfl rfl Ql ?_ | refine Ask.callA ent23 (fun h => c2) rfl rfl Ql ?_ | refine lB (T := tab) ?_ | refine lBA (T := tab) ?_ | refine lM (T := tab) ?_ | refine lM0 (T := tab) ?_ | refine lMA (T := tab) ?_ | refine sM ?_ | refine LK.askW rfl ?_ | refine s1 ?_ | refine sA ?_ | refine pS (T := tab) ?_ | refine LK.gr (Gr.bslV (T := tab) rfl rfl rfl rfl) ?_ | refine Ask.of (Gr.bslV (T := tab) rfl rfl rfl rfl) ?_ | refine Kx.nil ?_ | refine Kx.stp (T := tab) rfl rfl Qs ?_ | refine kA (T := tab) ?_ | refine kS (T := tab) ?_ | (refine Kx.frzR 0 rfl ?_ <;> refine kF (T := tab) ?_) | refine kP (T := tab) ?_ | refine k1 (T := tab) ?_ | refine kB (T := tab) ?_ | refine kL (T := tab) ?_ | refine CK.any false Qk ?_ | refine CK.any true Qk ?_ | fail))
      refine CK.nilrow 3 1 ?_
      refine CK.nilrow 45 3 ?_
      refine CK.perm (erase_perm (i := 3) rfl).symm ?_
      refine CK.perm (erase_perm (i := 3) rfl).symm ?_
      (conv => whnf); refine CK.loopK [4, 13, 14, 15, 16, 107, 108, 109, 110, 111, 112, 113, 114, 115, 116, 117, 118, 119, 120, 121, 122, 123, 124, 125, 126, 127, 128, 129, 130, 131, 132, 133, 134, 135, 136] (σ := Nat × List Sg × (Option Addr × Nat × Nat) × List Int × (Option Addr × Nat × Nat) × (Option Addr × Nat × Nat)) (fun s => s.1 ≤ p.workers.length ∧ s.2.2.2.1.length = s.1 ∧ s.2.1.length + (p.workers.length - s.1) * szD p.workers.length k + 2 ≤ 100000 ∧ denW (fun w lg => denP p b k (f ++ [(w : Int)]) lg) p.workers.length 0 [] log = denW (fun w lg => denP p b k (f ++ [(w : Int)]) lg) (p.workers.length - s.1) s.1 s.2.2.2.1 s.2.1)
        (fun ⟨w, lg, v, frm, u, t⟩ => [(13, .v (.slice u.1 u.2.1 u.2.2)), (14, .v (.slice t.1 t.2.1 t.2.2)), (15, I w)])
        (fun ⟨w, lg, v, frm, u, t⟩ => [Lg (.slice v.1 v.2.1 v.2.2) lg, Bd g p b (.slice v.1 v.2.1 v.2.2), .row (.slice t.1 t.2.1 t.2.2) 45 3 0 false ((yesL (f.map I).length w).map ltav), .row (.slice u.1 u.2.1 u.2.2) 3 1 0 false (frm.map I)]) R (fun s => p.workers.length - s.1) (0, log, (A, q, cp), [], (none, 0, 0), (none, 0, 0)) ⟨Nat.zero_le _, rfl, by rw [szD] at hl; simp only [Nat.sub_zero]; omega, rfl⟩ Qy (List.Sublist.refl _) ?_
      conv => whnf
      rintro ⟨w, lg, ⟨A3, q3, cp3⟩, frm, ⟨A4, q4, cp4⟩, ⟨A5, q5, cp5⟩⟩ ⟨j1, j2, j3, j4⟩
      simp only at j1 j2 j3 j4
      dsimp only
      have hdw : denP p b (k + 1) f log = match denW (fun w lg => denP p b k (f ++ [(w : Int)]) lg) (p.workers.length - w) w frm lg with
        | (none, log') => (-1, log')
        | (some frm, log') => ((log'.length : Int) + 1, (log' ++ [⟨yesL f.length p.workers.length, 1, []⟩]) ++ [⟨noL f, 5, frm ++ [(log'.length : Int)]⟩]) := by
        rw [denP, if_neg (fun h => h hb), j4]
        generalize denW _ _ _ _ _ = z
        rcases z with ⟨_ | _, _⟩ <;> rfl
      by_cases hw : w < p.workers.length
      · have hpre : Pre p (f ++ [(w : Int)]) k := ⟨hv, by simp; omega, fun x hx => by
          rcases List.mem_append.1 hx with hx | hx
          · exact hp.w x hx
          · rw [List.mem_singleton] at hx; omega⟩
        have ew : p.workers.length - w = (p.workers.length - (w + 1)) + 1 := by omega
        have emul : (p.workers.length - w) * szD p.workers.length k = (p.workers.length - (w + 1)) * szD p.workers.length k + szD p.workers.length k := by rw [ew, Nat.add_mul, Nat.one_mul]
        have hln := denP_len p b k (f ++ [(w : Int)]) lg
        have hrec := fun c R => ih k rfl (f ++ [(w : Int)]) c R g A3 q3 cp3 lg hpre (by omega)
        have harg : (([] ++ f.map I) ++ [I (w : Int)]) = (f ++ [(w : Int)]).map I := by simp
        rw [ew, denW] at hdw j4
        have hyl : ((yesL (f.map I).length w).map ltav).length = w := by unfold yesL; simp
        have hfl : (frm.map I).length = w := by rw [List.length_map, j2]
        have hyes := dYes_ok ((f.map I).length : Int) (w : Int)
        repeat' ((conv => whnf) <;> (first | refine LK.bsl (es := []) rfl rfl rfl rfl ?_ | refine nR (T := tab) ?_ | refine Must.mk (fun h => h) ?_ | refine Must.mk (fun _ => rfl) ?_ | refine Must.mk Qw ?_ | refine MW.ok Qw ?_ | intro _ | exact Fin.pure rfl | refine Br.tt ?_ | refine Br.ff ?_ | (refine Br.mk (fun h => ?_) (fun h => ?_) <;> (try simp only [sh] at h) <;> (try first | (exfalso; omega) | exact absurd trivial h | (exfalso; simp at h; done))) | refine Ix.at ‹_› Qw ?_ | refine Ix.mapN Qw ?_ | refine Ix.mapN1 Qw ?_ | refine Ix.map Qw ?_ | refine Ix.at Qi Qw ?_ | refine lB (T := tab) ?_ | refine lBA (T := tab) ?_ | refine lM (T := tab) ?_ | refine lM0 (T := tab) ?_ | refine lMA (T := tab) ?_ | refine sM ?_ | refine LK.askW rfl ?_ | refine s1 ?_ | refine sA ?_ | refine pS (T := tab) ?_ | refine LK.gr (Gr.bslV (T := tab) rfl rfl rfl rfl) ?_ | refine Ask.of (Gr.bslV (T := tab) rfl rfl rfl rfl) ?_ | refine Kx.nil ?_ | refine Kx.stp (T := tab) rfl rfl Qs ?_ | refine kA (T := tab) ?_ | refine kS (T := tab) ?_ | (refine Kx.frzR 0 rfl ?_ <;> refine kF (T := tab) ?_) | refine kP (T := tab) ?_ | refine k1 (T := tab) ?_ | refine kB (T := tab) ?_ | refine kL (T := tab) ?_ | refine CK.any false Qk ?_ | refine CK.any true Qk ?_ | fail))
        rw [harg]
        repeat' ((conv => whnf) <;> (first | (refine LK.frzR 0 rfl ?_ <;> refine LK.callL ent16 (FnL.front 2 rfl (FnL.front 2 rfl (hrec _ _))) rfl rfl Ql (fun _ _ hcall => ?_) <;> obtain ⟨A6, q6, cp6, rfl, rfl⟩ := hcall) | refine nR (T := tab) ?_ | refine Must.mk (fun h => h) ?_ | refine Must.mk (fun _ => rfl) ?_ | refine Must.mk Qw ?_ | refine MW.ok Qw ?_ | intro _ | exact Fin.pure rfl | refine Br.tt ?_ | refine Br.ff ?_ | (refine Br.mk (fun h => ?_) (fun h => ?_) <;> (try simp only [sh] at h) <;> (try first | (exfalso; omega) | exact absurd trivial h | (exfalso; simp at h; done))) | refine Ix.at ‹_› Qw ?_ | refine Ix.mapN Qw ?_ | refine Ix.mapN1 Qw ?_ | refine Ix.map Qw ?_ | refine Ix.at Qi Qw ?_ | refine LK.callA ent30 (hyes) rfl rfl (SbL.refl _) ?_ | refine Ask.callA ent30 (fun h => hyes) rfl rfl (SbL.refl _) ?_ | refine LK.callA ent30 (hyes) rfl rfl Ql ?_ | refine Ask.callA ent30 (fun h => hyes) rfl rfl Ql ?_ | refine lB (T := tab) ?_ | refine lBA (T := tab) ?_ | refine lM (T := tab) ?_ | refine lM0 (T := tab) ?_ | refine lMA (T := tab) ?_ | refine sM ?_ | refine LK.askW rfl ?_ | refine s1 ?_ | refine sA ?_ | refine pS (T := tab) ?_ | refine LK.gr (Gr.bslV (T := tab) rfl rfl rfl rfl) ?_ | refine Ask.of (Gr.bslV (T := tab) rfl rfl rfl rfl) ?_ | refine Kx.nil ?_ | refine Kx.stp (T := tab) rfl rfl Qs ?_ | refine kA (T := tab) ?_ | refine kS (T := tab) ?_ | (refine Kx.frzR 0 rfl ?_ <;> refine kF (T := tab) ?_) | refine kP (T := tab) ?_ | refine k1 (T := tab) ?_ | refine kB (T := tab) ?_ | refine kL (T := tab) ?_ | refine CK.any false Qk ?_ | refine CK.any true Qk ?_ | fail))
        · conv => whnf
          rw [if_pos h] at hdw
          rw [hdw]
          exact .out (Lg (.slice A6 q6 cp6) (denP p b k (f ++ [(w : Int)]) lg).2 :: Bd g p b (.slice A6 q6 cp6) :: R) Qs ⟨_, _, _, rfl, rfl⟩
        · rename_i A7 q7 cp7 A8 q8 cp8
          rw [if_neg (by omega)] at j4
          (conv => whnf); (refine Nxt.of ((w + 1, (denP p b k (f ++ [(w : Int)]) lg).2, (A6, q6, cp6), frm ++ [(denP p b k (f ++ [(w : Int)]) lg).1], (A7, q7, cp7), (A8, q8, cp8))) [4, 13, 14, 15, 16, 107, 108, 109, 110, 111, 112, 113, 114, 115, 116, 117, 118, 119, 120, 121, 122, 123, 124, 125, 126, 127, 128, 129, 130, 131, 132, 133, 134, 135, 136] Qr Qr Qr ?_ ?_ Qy ?_ <;> (try dsimp only) <;> (try omega))
          · exact ⟨by omega, by simp; omega, by omega, j4⟩
          · rw [yes_snoc, List.map_append, List.map_append]
            exact Qs
      · obtain rfl : w = p.workers.length := by omega
        rw [Nat.sub_self, denW] at hdw
        dsimp only at hdw
        rw [hdw]
        rw [hlf]
        have hyl : ((yesL f.length p.workers.length).map ltav).length = p.workers.length := by unfold yesL; simp
        have hfl : (frm.map I).length = p.workers.length := by rw [List.length_map, j2]
        have hfr : frm.map I ++ [I (lg.length : Int)] = (frm ++ [(lg.length : Int)]).map I := by rw [List.map_append]; rfl
        repeat' ((conv => whnf) <;> (first | (refine LK.frzR 2 rfl ?_ <;> refine LK.callL ent29 (dAdd_ok p b g A3 q3 cp3 lg ⟨yesL f.length p.workers.length, 1, []⟩ _ (by omega)) rfl rfl Ql (fun _ _ hcall => ?_) <;> obtain ⟨A6, q6, cp6, rfl, rfl⟩ := hcall) | refine nR (T := tab) ?_ | refine Must.mk (fun h => h) ?_ | refine Must.mk (fun _ => rfl) ?_ | refine Must.mk Qw ?_ | refine MW.ok Qw ?_ | intro _ | exact Fin.pure rfl | refine Br.tt ?_ | refine Br.ff ?_ | (refine Br.mk (fun h => ?_) (fun h => ?_) <;> (try simp only [sh] at h) <;> (try first | (exfalso; omega) | exact absurd trivial h | (exfalso; simp at h; done))) | refine Ix.at ‹_› Qw ?_ | refine Ix.mapN Qw ?_ | refine Ix.mapN1 Qw ?_ | refine Ix.map Qw ?_ | refine Ix.at Qi Qw ?_ | refine lB (T := tab) ?_ | refine lBA (T := tab) ?_ | refine lM (T := tab) ?_ | refine lM0 (T := tab) ?_ | refine lMA (T := tab) ?_ | refine sM ?_ | refine LK.askW rfl ?_ | refine s1 ?_ | refine sA ?_ | refine pS (T := tab) ?_ | refine LK.gr (Gr.bslV (T := tab) rfl rfl rfl rfl) ?_ | refine Ask.of (Gr.bslV (T := tab) rfl rfl rfl rfl) ?_ | refine Kx.nil ?_ | refine Kx.stp (T := tab) rfl rfl Qs ?_ | refine kA (T := tab) ?_ | refine kS (T := tab) ?_ | (refine Kx.frzR 0 rfl ?_ <;> refine kF (T := tab) ?_) | refine kP (T := tab) ?_ | refine k1 (T := tab) ?_ | refine kB (T := tab) ?_ | refine kL (T := tab) ?_ | refine CK.any false Qk ?_ | refine CK.any true Qk ?_ | fail))
        rw [hfr]
        repeat' ((conv => whnf) <;> (first | (refine LK.frzR 3 rfl ?_ <;> refine LK.callL ent29 (dAdd_ok p b g A6 q6 cp6 (lg ++ [⟨yesL f.length p.workers.length, 1, []⟩]) ⟨noL f, 5, frm ++ [(lg.length : Int)]⟩ _ (by simp; omega)) rfl rfl Ql (fun _ _ hcall => ?_) <;> obtain ⟨A7, q7, cp7, rfl, rfl⟩ := hcall) | refine nR (T := tab) ?_ | refine Must.mk (fun h => h) ?_ | refine Must.mk (fun _ => rfl) ?_ | refine Must.mk Qw ?_ | refine MW.ok Qw ?_ | intro _ | exact Fin.pure rfl | refine Br.tt ?_ | refine Br.ff ?_ | (refine Br.mk (fun h => ?_) (fun h => ?_) <;> (try simp only [sh] at h) <;> (try first | (exfalso; omega) | exact absurd trivial h | (exfalso; simp at h; done))) | refine Ix.at ‹_› Qw ?_ | refine Ix.mapN Qw ?_ | refine Ix.mapN1 Qw ?_ | refine Ix.map Qw ?_ | refine Ix.at Qi Qw ?_ | refine lB (T := tab) ?_ | refine lBA (T := tab) ?_ | refine lM (T := tab) ?_ | refine lM0 (T := tab) ?_ | refine lMA (T := tab) ?_ | refine sM ?_ | refine LK.askW rfl ?_ | refine s1 ?_ | refine sA ?_ | refine pS (T := tab) ?_ | refine LK.gr (Gr.bslV (T := tab) rfl rfl rfl rfl) ?_ | refine Ask.of (Gr.bslV (T := tab) rfl rfl rfl rfl) ?_ | refine Kx.nil ?_ | refine Kx.stp (T := tab) rfl rfl Qs ?_ | refine kA (T := tab) ?_ | refine kS (T := tab) ?_ | (refine Kx.frzR 0 rfl ?_ <;> refine kF (T := tab) ?_) | refine kP (T := tab) ?_ | refine k1 (T := tab) ?_ | refine kB (T := tab) ?_ | refine kL (T := tab) ?_ | refine CK.any false Qk ?_ | refine CK.any true Qk ?_ | fail))
        conv => whnf
        exact .out (Lg (.slice A7 q7 cp7) ((lg ++ [⟨yesL f.length p.workers.length, 1, []⟩]) ++ [⟨noL f, 5, frm ++ [(lg.length : Int)]⟩]) :: Bd g p b (.slice A7 q7 cp7) :: R) Qs ⟨_, _, _, congrArg I (by simp), rfl⟩
  · have hb2 := hbz.2 hb
    rw [denP_bad hb]
    repeat' ((conv => whnf) <;> (first | (refine LK.frzR 0 rfl ?_ <;> refine LK.frzR 1 rfl ?_ <;> refine LK.see 5 rfl (Sb.row 0 rfl) ?_ <;> refine LK.see 6 rfl (Sb.row 1 rfl) ?_ <;> refine LK.see 58 rfl (Sb.row 1 rfl) ?_ <;> refine LK.sub (L' := Lg (.slice A q cp) log :: Bd g p b (.slice A q cp) :: R) Qs ?_ <;> refine LK.callA ent22 c1 rfl rfl (SbL.refl _) ?_) | refine nR (T := tab) ?_ | refine Must.mk (fun h => h) ?_ | refine Must.mk (fun _ => rfl) ?_ | refine Must.mk Qw ?_ | refine MW.ok Qw ?_ | intro _ | exact Fin.pure rfl | refine Br.tt ?_ | refine Br.ff ?_ | (refine Br.mk (fun h => ?_) (fun h => ?_) <;> (try simp only [sh] at h) <;> (try first | (exfalso; omega) | exact absurd trivial h | (exfalso; simp at h; done))) | refine Ix.at ‹_› Qw ?_ | refine Ix.mapN Qw ?_ | refine Ix.mapN1 Qw ?_ | refine Ix.map Qw ?_ | refine Ix.at Qi Qw ?_ | refine LK.callA ent23 (c2) rfl rfl (SbL.refl _) ?_ | refine Ask.callA ent23 (fun h => c2) rfl rfl (SbL.refl _) ?_ | refine LK.callA ent23 (c2) rfl rfl Ql ?_ | refine Ask.callA ent23 (fun h => c2) rfl rfl Ql ?_ | (refine LK.callL ent29 (dAdd_ok p b g A q cp log ⟨noL f, 3, []⟩ R (by omega)) rfl rfl Ql (fun _ _ hcall => ?_) <;> obtain ⟨A3, q3, cp3, rfl, rfl⟩ := hcall) | refine lB (T := tab) ?_ | refine lBA (T := tab) ?_ | refine lM (T := tab) ?_ | refine lM0 (T := tab) ?_ | refine lMA (T := tab) ?_ | refine sM ?_ | refine LK.askW rfl ?_ | refine s1 ?_ | refine sA ?_ | refine pS (T := tab) ?_ | refine LK.gr (Gr.bslV (T := tab) rfl rfl rfl rfl) ?_ | refine Ask.of (Gr.bslV (T := tab) rfl rfl rfl rfl) ?_ | refine Kx.nil ?_ | refine Kx.stp (T := tab) rfl rfl Qs ?_ | refine kA (T := tab) ?_ | refine kS (T := tab) ?_ | (refine Kx.frzR 0 rfl ?_ <;> refine kF (T := tab) ?_) | refine kP (T := tab) ?_ | refine k1 (T := tab) ?_ | refine kB (T := tab) ?_ | refine kL (T := tab) ?_ | refine CK.any false Qk ?_ | refine CK.any true Qk ?_ | fail))
    conv => whnf
    exact .out (Lg (.slice A3 q3 cp3) (log ++ [⟨noL f, 3, []⟩]) :: Bd g p b (.slice A3 q3 cp3) :: R) Qs ⟨_, _, _, rfl, rfl⟩
theorem dDeny_ok (p : Pl) (b : Int) (hs : Small p) (hv : validP p = true) : ∀ m, DenyOk p b m
  | 0 => dDeny_st p b hs hv 0 fun k h => by omega
  | m + 1 => dDeny_st p b hs hv (m + 1) fun k h => by
    obtain rfl : m = k := by omega
    exact dDeny_ok p b hs hv m
set_option maxRecDepth 4000 in
set_option maxHeartbeats 8000000 in
theorem dCompl_all (p : Pl) (b : Int) (hz : PlZ p) : FnA Tryz.prog 6 [.agg (pcs p), I b] (B true) := by
  have c0 := dHead_ok
  have c1 := vSmall_ok p [] 4 hz.ch hz.wk (by simp) hz.aw
  have hld : (p.duties.map duav).length = p.duties.length := by simp
  have hlw : (p.workers.map wkav).length = p.workers.length := by simp
  by_cases hA : 0 < p.duties.length ∧ p.duties.length ≤ 4 ∧ p.workers.length ≤ 3 ∧ smallV p [] 4 = true
  · obtain ⟨a1, a2, a3, a4⟩ := hA
    have hs : Small p := by
      have h := smallV_iff.1 a4
      exact ⟨by omega, by omega, by omega, fun w hw => by have := h.2.2.2.2 w hw; omega⟩
    rw [a4] at c1
    have c2 := v8Valid_ok p hs
    by_cases hv : validP p = true
    · rw [hv] at c2
      have hpre : Pre p [] p.duties.length := ⟨hv, by simp, by simp⟩
      have hlen := denP_len p b p.duties.length [] []
      have hsz : szD p.workers.length p.duties.length ≤ 1000 := szD_le a3 a2
      rw [List.length_nil] at hlen
      have hden := fun c R g => dDeny_ok p b hs hv p.duties.length [] c R g none 0 0 [] hpre (by rw [List.length_nil]; omega)
      have hlg : ((denP p b p.duties.length [] []).2.map sgav).length = (denP p b p.duties.length [] []).2.length := by simp
      by_cases hk : 0 ≤ (denP p b p.duties.length [] []).1
      · obtain ⟨d1, d2, d3⟩ := den_check hv a2 a3 hk
        have k1 := uCheck_ok p b (denP p b p.duties.length [] []).2 hs ⟨by omega, fun s h => by have := d3 s h; omega⟩
        rw [d2] at k1
        refine fn_run (T := tab) Tryz.func6 rfl Tryz.ntmps6 rfl Tryz.results6 (fun _ => ?_)
        repeat' ((conv => whnf) <;> (first | (refine LK.nilrow 43 3 ?_ <;> refine LK.callL ent16 (hden _ _ _) rfl rfl Ql (fun _ _ hcall => ?_) <;> obtain ⟨A6, q6, cp6, rfl, rfl⟩ := hcall) | refine CK.frzR1 0 rfl ?_ | refine nR (T := tab) ?_ | refine Must.mk (fun h => h) ?_ | refine Must.mk (fun _ => rfl) ?_ | refine Must.mk Qw ?_ | refine MW.ok Qw ?_ | intro _ | exact Fin.pure rfl | refine Br.tt ?_ | refine Br.ff ?_ | (refine Br.mk (fun h => ?_) (fun h => ?_) <;> (try simp only [sh] at h) <;> (try first | (exfalso; omega) | exact absurd trivial h | (exfalso; simp at h; done))) | refine Ix.at ‹_› Qw ?_ | refine Ix.mapN Qw ?_ | refine Ix.mapN1 Qw ?_ | refine Ix.map Qw ?_ | refine Ix.at Qi Qw ?_ | refine LK.callA ent7 (c0) rfl rfl (SbL.refl _) ?_ | refine Ask.callA ent7 (fun h => c0) rfl rfl (SbL.refl _) ?_ | refine LK.callA ent7 (c0) rfl rfl Ql ?_ | refine Ask.callA ent7 (fun h => c0) rfl rfl Ql ?_ | refine LK.callA ent13 (c1) rfl rfl (SbL.refl _) ?_ | refine Ask.callA ent13 (fun h => c1) rfl rfl (SbL.refl _) ?_ | refine LK.callA ent13 (c1) rfl rfl Ql ?_ | refine Ask.callA ent13 (fun h => c1) rfl rfl Ql ?_ | refine LK.callA ent15 (c2) rfl rfl (SbL.refl _) ?_ | refine Ask.callA ent15 (fun h => c2) rfl rfl (SbL.refl _) ?_ | refine LK.callA ent15 (c2) rfl rfl Ql ?_ | refine Ask.callA ent15 (fun h => c2) rfl rfl Ql ?_ | refine LK.callA ent11 (k1) rfl rfl (SbL.refl _) ?_ | refine Ask.callA ent11 (fun h => k1) rfl rfl (SbL.refl _) ?_ | refine LK.callA ent11 (k1) rfl rfl Ql ?_ | refine Ask.callA ent11 (fun h => k1) rfl rfl Ql ?_ | refine lB (T := tab) ?_ | refine lBA (T := tab) ?_ | refine LK.askW rfl ?_ | refine s1 ?_ | refine sA ?_ | refine CK.any false Qk ?_ | fail))
        conv => whnf
        refine Fin.pure (congrArg B ?_)
        rw [decide_eq_true (by omega)]
        rfl
      · refine fn_run (T := tab) Tryz.func6 rfl Tryz.ntmps6 rfl Tryz.results6 (fun _ => ?_)
        repeat' ((conv => whnf) <;> (first | (refine LK.nilrow 43 3 ?_ <;> refine LK.callL ent16 (hden _ _ _) rfl rfl Ql (fun _ _ hcall => ?_) <;> obtain ⟨A6, q6, cp6, rfl, rfl⟩ := hcall) | refine Must.mk (fun h => h) ?_ | refine Must.mk (fun _ => rfl) ?_ | refine Must.mk Qw ?_ | refine MW.ok Qw ?_ | intro _ | exact Fin.pure rfl | refine Fin.pure ?_ | refine Br.tt ?_ | refine Br.ff ?_ | (refine Br.mk (fun h => ?_) (fun h => ?_) <;> (try simp only [sh] at h) <;> (try first | (exfalso; omega) | exact absurd trivial h | (exfalso; simp at h; done))) | refine Ix.at ‹_› Qw ?_ | refine Ix.mapN Qw ?_ | refine Ix.mapN1 Qw ?_ | refine Ix.map Qw ?_ | refine Ix.at Qi Qw ?_ | refine LK.callA ent7 (c0) rfl rfl (SbL.refl _) ?_ | refine Ask.callA ent7 (fun h => c0) rfl rfl (SbL.refl _) ?_ | refine LK.callA ent7 (c0) rfl rfl Ql ?_ | refine Ask.callA ent7 (fun h => c0) rfl rfl Ql ?_ | refine LK.callA ent13 (c1) rfl rfl (SbL.refl _) ?_ | refine Ask.callA ent13 (fun h => c1) rfl rfl (SbL.refl _) ?_ | refine LK.callA ent13 (c1) rfl rfl Ql ?_ | refine Ask.callA ent13 (fun h => c1) rfl rfl Ql ?_ | refine LK.callA ent15 (c2) rfl rfl (SbL.refl _) ?_ | refine Ask.callA ent15 (fun h => c2) rfl rfl (SbL.refl _) ?_ | refine LK.callA ent15 (c2) rfl rfl Ql ?_ | refine Ask.callA ent15 (fun h => c2) rfl rfl Ql ?_ | refine lB (T := tab) ?_ | refine lBA (T := tab) ?_ | refine LK.askW rfl ?_ | refine s1 ?_ | refine sA ?_ | refine CK.any false Qk ?_ | fail))
    · rw [Bool.eq_false_iff.2 hv] at c2
      refine fn_run (T := tab) Tryz.func6 rfl Tryz.ntmps6 rfl Tryz.results6 (fun _ => ?_)
      repeat' ((conv => whnf) <;> (first | refine Must.mk (fun h => h) ?_ | refine Must.mk (fun _ => rfl) ?_ | refine Must.mk Qw ?_ | refine MW.ok Qw ?_ | intro _ | exact Fin.pure rfl | refine Fin.pure ?_ | refine Br.tt ?_ | refine Br.ff ?_ | (refine Br.mk (fun h => ?_) (fun h => ?_) <;> (try simp only [sh] at h) <;> (try first | (exfalso; omega) | exact absurd trivial h | (exfalso; simp at h; done))) | refine Ix.at ‹_› Qw ?_ | refine Ix.mapN Qw ?_ | refine Ix.mapN1 Qw ?_ | refine Ix.map Qw ?_ | refine Ix.at Qi Qw ?_ | refine LK.callA ent7 (c0) rfl rfl (SbL.refl _) ?_ | refine Ask.callA ent7 (fun h => c0) rfl rfl (SbL.refl _) ?_ | refine LK.callA ent7 (c0) rfl rfl Ql ?_ | refine Ask.callA ent7 (fun h => c0) rfl rfl Ql ?_ | refine LK.callA ent13 (c1) rfl rfl (SbL.refl _) ?_ | refine Ask.callA ent13 (fun h => c1) rfl rfl (SbL.refl _) ?_ | refine LK.callA ent13 (c1) rfl rfl Ql ?_ | refine Ask.callA ent13 (fun h => c1) rfl rfl Ql ?_ | refine LK.callA ent15 (c2) rfl rfl (SbL.refl _) ?_ | refine Ask.callA ent15 (fun h => c2) rfl rfl (SbL.refl _) ?_ | refine LK.callA ent15 (c2) rfl rfl Ql ?_ | refine Ask.callA ent15 (fun h => c2) rfl rfl Ql ?_ | refine lB (T := tab) ?_ | refine lBA (T := tab) ?_ | refine LK.askW rfl ?_ | refine s1 ?_ | refine sA ?_ | refine CK.any false Qk ?_ | fail))
  · have hf : ∀ q : Prop, (((¬(p.duties.length : Int) = 0 ∧ (p.duties.length : Int) ≤ 4) ∧ (p.workers.length : Int) ≤ 3) ∧ smallV p [] 4 = true) → q := fun q h => absurd ⟨by omega, by omega, by omega, h.2⟩ hA
    refine fn_run (T := tab) Tryz.func6 rfl Tryz.ntmps6 rfl Tryz.results6 (fun _ => ?_)
    repeat' ((conv => whnf) <;> (first | refine Ask.callA (r := B false) ent15 (fun h => by simp only [sh] at h; exact hf _ h) rfl rfl (SbL.refl _) ?_ | refine Must.mk (fun h => h) ?_ | refine Must.mk (fun _ => rfl) ?_ | refine Must.mk Qw ?_ | refine MW.ok Qw ?_ | intro _ | exact Fin.pure rfl | refine Fin.pure ?_ | refine Br.tt ?_ | refine Br.ff ?_ | (refine Br.mk (fun h => ?_) (fun h => ?_) <;> (try simp only [sh] at h) <;> (try first | (exfalso; omega) | exact absurd trivial h | (exfalso; simp at h; done))) | refine Ix.at ‹_› Qw ?_ | refine Ix.mapN Qw ?_ | refine Ix.mapN1 Qw ?_ | refine Ix.map Qw ?_ | refine Ix.at Qi Qw ?_ | refine LK.callA ent7 (c0) rfl rfl (SbL.refl _) ?_ | refine Ask.callA ent7 (fun h => c0) rfl rfl (SbL.refl _) ?_ | refine LK.callA ent7 (c0) rfl rfl Ql ?_ | refine Ask.callA ent7 (fun h => c0) rfl rfl Ql ?_ | refine LK.callA ent13 (c1) rfl rfl (SbL.refl _) ?_ | refine Ask.callA ent13 (fun h => c1) rfl rfl (SbL.refl _) ?_ | refine LK.callA ent13 (c1) rfl rfl Ql ?_ | refine Ask.callA ent13 (fun h => c1) rfl rfl Ql ?_ | refine lB (T := tab) ?_ | refine lBA (T := tab) ?_ | refine LK.askW rfl ?_ | refine s1 ?_ | refine sA ?_ | refine CK.any false Qk ?_ | fail))
end Go.Proofs.YthjllgabmgkocaaGreat
