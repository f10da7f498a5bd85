/-
  Walks: package planner: append, some, the collector of refute.
  Conditions: those of each theorem.
-/
import Derived.Test.YtecemgicnboaaaaGreatNS2
import Derived.Test.YtecemgicnboaaaaGreatGQ
namespace Go.Proofs.YtecemgicnboaaaaGreat
open Go.E2 Go.Wage
def ltav (l : Lt) : AV := .agg [I l.du, I l.wk, B l.is]
def sgav (s : Sg) : AV := .agg [.sl 3 (s.cl.map ltav), I s.rule, .sl 1 (s.frm.map I)]
abbrev Lg (v : Value) (log : List Sg) : Ent := .row v 80 3 0 false (log.map sgav)
abbrev LgP (g : Nat) (p : Pl) (f : Value) (b : BS) (R : List Ent) (r : RS × Int × Int) : AV → List Ent → Prop := fun a L' => ∃ A q cp, a = .tup [I r.2.1, I r.2.2] ∧ L' = Lg (.slice A q cp) r.1.log :: Se g p f r.1.fuel b (.slice A q cp) :: R
set_option maxRecDepth 4000 in
set_option maxHeartbeats 4000000 in
theorem pAppend_ok {c : Ctx} (p : Pl) (f : Value) (fu : Int) (b : BS) (g : Nat) (A : Option Addr) (q cp : Nat) (log : List Sg) (s : Sg) (R : List Ent) (hl : log.length ≤ 20000) :
    FnL Tryz.prog c 70 [pt g, sgav s] (Lg (.slice A q cp) log :: Se g p f fu b (.slice A q cp) :: R) (LgP g p f b R (addP ⟨fu, log⟩ s)) := by
  have hlg : (log.map sgav).length = log.length := by simp
  have hlg2 : (log.map sgav ++ [AV.agg [.sl 3 (s.cl.map ltav), I s.rule, .sl 1 (s.frm.map I)]]).length = log.length + 1 := by simp
  unfold addP
  refine fnL_run (T := tab) Tryz.func70 rfl Tryz.ntmps70 rfl Tryz.results70 (fun _ hw0 => ?_)
  repeat' ((conv => whnf) <;> (first | refine nR (T := tab) ?_ | refine CK.anyK [0, 1, 2, 3, 5, 6] [4, 7, 8, 9, 10] _ (List.Sublist.cons_cons _ (List.Sublist.cons _ (List.Sublist.cons _ (List.Sublist.refl _)))) Qk ?_ | refine zM ?_ | refine zW ?_ | intro _ | exact zF | refine Br.tt ?_ | refine Br.ff ?_ | (refine Br.mk (fun h => ?_) (fun h => ?_) <;> (try simp only [sh] at h) <;> try first | (exfalso; omega) | exact absurd trivial h | (simp at h; done)) | refine zA ?_ | refine zN ?_ | refine zO ?_ | refine zP ?_ | refine zB ?_ | refine lB ?_ | refine lBA ?_ | refine zK ?_ | refine s1 ?_ | refine sA ?_ | refine pS ?_ | refine LK.gr (Gr.bslV rfl rfl rfl rfl) ?_ | refine Ask.of (Gr.bslV rfl rfl rfl rfl) ?_ | refine Kx.nil ?_ | refine Kx.stp rfl rfl Qs ?_ | refine kA ?_ | refine kS ?_ | (refine Kx.frzR 0 rfl ?_ <;> refine kF ?_) | refine kP ?_ | refine k1 ?_ | refine kB ?_ | refine kL ?_ | refine zC ?_ | refine zD ?_ | fail))
  · conv => whnf
    rw [if_pos (by simp only; omega)]
    exact .out (Lg (.slice A q cp) log :: Se g p f fu b (.slice A q cp) :: R) Qs ⟨_, _, _, rfl, rfl⟩
  · conv => whnf
    have hlg3 : log.map sgav ++ [AV.agg [.sl 3 (s.cl.map ltav), I s.rule, .sl 1 (s.frm.map I)]] = (log ++ [s]).map sgav := by rw [List.map_append]; rfl
    rename_i A2 q2 cp2
    rw [if_neg (by simp only; omega), hlg2]
    refine .out (Lg (.slice A2 q2 cp2) (log ++ [s]) :: Se g p f fu b (.slice A2 q2 cp2) :: R) ?_ ⟨A2, q2, cp2, congrArg (fun x => AV.tup [I x, I 0]) (by simp only; omega), rfl⟩
    rw [Lg, ← hlg3]
    exact Qs
theorem pRefute1_ok {c : Ctx} (x : Int) (g : Nat) (A : Option Addr) (q cp : Nat) (frm : List Int) (R : List Ent) (hl : frm.length ≤ 1000) :
    FnL Tryz.prog c 71 [I x, pt g] (.row (.slice A q cp) 3 1 0 false (frm.map I) :: .blk g 38 false [.v (.slice A q cp)] :: R) fun a L' => ∃ A q cp, a = .tup [] ∧ L' = .row (.slice A q cp) 3 1 0 false ((frm ++ [x]).map I) :: .blk g 38 false [.v (.slice A q cp)] :: R := by
  have hlf : (frm.map I).length = frm.length := by simp
  refine fnL_run (T := tab) Tryz.func71 rfl Tryz.ntmps71 rfl Tryz.results71 (fun _ hw0 => ?_)
  repeat' ((conv => whnf) <;> (first | refine zM ?_ | refine zW ?_ | intro _ | exact zF | refine Br.tt ?_ | refine Br.ff ?_ | (refine Br.mk (fun h => ?_) (fun h => ?_) <;> (try simp only [sh] at h) <;> try first | (exfalso; omega) | exact absurd trivial h | (simp at h; done)) | refine zA ?_ | refine zN ?_ | refine zO ?_ | refine zP ?_ | refine zB ?_ | refine lB ?_ | refine lBA ?_ | refine zK ?_ | refine s1 ?_ | refine sA ?_ | refine pS ?_ | refine LK.gr (Gr.bslV rfl rfl rfl rfl) ?_ | refine Ask.of (Gr.bslV rfl rfl rfl rfl) ?_ | refine zC ?_ | refine zD ?_ | fail))
  conv => whnf
  have e : frm.map I ++ [I x] = (frm ++ [x]).map I := by rw [List.map_append]; rfl
  rw [← e]
  exact .out _ Qs ⟨_, _, _, rfl, rfl⟩
set_option maxRecDepth 4000 in
set_option maxHeartbeats 8000000 in
theorem pSome_ok {c : Ctx} (p : Pl) (hs : Small p) (f : Value) (fu : Int) (b : BS) (g : Nat) (R : List Ent) :
    FnL Tryz.prog c 33 [pt g] (Se g p f fu b (.slice none 0 0) :: R) fun a L' => ∃ A q cp, a = .tup [] ∧ L' = Lg (.slice A q cp) (someL p p.duties.length) :: Se g p f fu b (.slice A q cp) :: R := by
  have hsd := hs.du
  have hsw := hs.wk
  have hld : (p.duties.map duav).length = p.duties.length := by simp
  have hlw : (p.workers.map wkav).length = p.workers.length := by simp
  refine fnL_run (T := tab) Tryz.func33 rfl Tryz.ntmps33 rfl Tryz.results33 (fun _ hw0 => ?_)
  repeat' ((conv => whnf) <;> (first | refine zM ?_ | refine zW ?_ | intro _ | exact zF | refine Br.tt ?_ | refine Br.ff ?_ | (refine Br.mk (fun h => ?_) (fun h => ?_) <;> (try simp only [sh] at h) <;> try first | (exfalso; omega) | exact absurd trivial h | (simp at h; done)) | refine zA ?_ | refine zN ?_ | refine zO ?_ | refine zP ?_ | refine zB ?_ | refine lB ?_ | refine lBA ?_ | refine zK ?_ | refine s1 ?_ | refine sA ?_ | refine zC ?_ | fail))
  refine CK.nilrow 80 3 ?_
  (conv => whnf); refine CK.loopK [2, 3, 4, 11, 12, 13, 14, 15, 16, 17, 18, 19, 20, 21, 22, 23, 24, 25, 26, 27, 28, 29, 30, 31, 32, 33, 34, 35, 36, 37, 38, 39, 40, 41] (σ := Nat × (Option Addr × Nat × Nat)) (fun s => s.1 ≤ p.duties.length) (fun ⟨d, _⟩ => [(11, I d)]) (fun ⟨d, v⟩ => [Lg (.slice v.1 v.2.1 v.2.2) (someL p d), Se g p f fu b (.slice v.1 v.2.1 v.2.2)]) R (fun s => p.duties.length - s.1) (0, (none, 0, 0)) (Nat.zero_le _) Qy (List.Sublist.refl _) ?_
  conv => whnf
  rintro ⟨d, ⟨A1, q1, cp1⟩⟩ i1
  simp only at i1
  dsimp only
  by_cases hd : d < p.duties.length
  · repeat' ((conv => whnf) <;> (first | refine zM ?_ | refine zW ?_ | intro _ | exact zF | refine Br.tt ?_ | refine Br.ff ?_ | (refine Br.mk (fun h => ?_) (fun h => ?_) <;> (try simp only [sh] at h) <;> try first | (exfalso; omega) | exact absurd trivial h | (simp at h; done)) | refine zA ?_ | refine zN ?_ | refine zO ?_ | refine zP ?_ | refine zB ?_ | refine lB ?_ | refine lBA ?_ | refine zK ?_ | refine s1 ?_ | refine sA ?_ | refine zC ?_ | fail))
    refine CK.nilrow 124 3 ?_
    (conv => whnf); refine CK.loopK [3, 4, 20, 21, 22, 23, 24, 25, 26, 27, 28, 29] (σ := Nat × (Option Addr × Nat × Nat)) (fun s => s.1 ≤ p.workers.length) (fun ⟨w, v⟩ => [(3, .v (.slice v.1 v.2.1 v.2.2)), (20, I w)]) (fun ⟨w, v⟩ => [.row (.slice v.1 v.2.1 v.2.2) 124 3 0 false ((yesL d w).map ltav)]) (Lg (.slice A1 q1 cp1) (someL p d) :: Se g p f fu b (.slice A1 q1 cp1) :: R) (fun s => p.workers.length - s.1) (0, (none, 0, 0)) (Nat.zero_le _) Qy (List.Sublist.refl _) ?_
    conv => whnf
    rintro ⟨w, ⟨A2, q2, cp2⟩⟩ j1
    simp only at j1
    dsimp only
    have hyl : ((yesL d w).map ltav).length = w := by unfold yesL; simp
    by_cases hw : w < p.workers.length
    · repeat' ((conv => whnf) <;> (first | refine nR (T := tab) ?_ | refine zM ?_ | refine zW ?_ | intro _ | exact zF | refine Br.tt ?_ | refine Br.ff ?_ | (refine Br.mk (fun h => ?_) (fun h => ?_) <;> (try simp only [sh] at h) <;> try first | (exfalso; omega) | exact absurd trivial h | (simp at h; done)) | refine zA ?_ | refine zN ?_ | refine zO ?_ | refine zP ?_ | refine zB ?_ | refine lB ?_ | refine lBA ?_ | refine zK ?_ | refine s1 ?_ | refine sA ?_ | refine pS ?_ | refine LK.gr (Gr.bslV rfl rfl rfl rfl) ?_ | refine Ask.of (Gr.bslV rfl rfl rfl rfl) ?_ | refine Kx.nil ?_ | refine Kx.stp rfl rfl Qs ?_ | refine kA ?_ | refine kS ?_ | (refine Kx.frzR 0 rfl ?_ <;> refine kF ?_) | refine kP ?_ | refine k1 ?_ | refine kB ?_ | refine kL ?_ | refine zC ?_ | refine zD ?_ | fail))
      rename_i A3 q3 cp3
      (conv => whnf); (refine Nxt.of ((w + 1, (A3, q3, cp3))) [3, 4, 20, 21, 22, 23, 24, 25, 26, 27, 28, 29] Qr Qr Qr ?_ ?_ Qy ?_ <;> (try dsimp only) <;> (try omega))
      rw [yes_snoc, List.map_append]
      exact Qs
    · obtain rfl : w = p.workers.length := by omega
      have hsl : ((someL p d).map sgav).length = d := by unfold someL; simp
      repeat' ((conv => whnf) <;> (first | (refine LK.frzR 0 rfl ?_ <;> refine LK.see 36 rfl (Sb.agg (SbL.cons (Sb.row 0 rfl) (SbL.cons (Sb.refl _) (SbL.cons (Sb.nil (k := 1)) SbL.nil)))) ?_ <;> refine LK.gr (Gr.bslV rfl rfl rfl rfl) ?_) | refine nR (T := tab) ?_ | refine zM ?_ | refine zW ?_ | intro _ | exact zF | refine Br.tt ?_ | refine Br.ff ?_ | (refine Br.mk (fun h => ?_) (fun h => ?_) <;> (try simp only [sh] at h) <;> try first | (exfalso; omega) | exact absurd trivial h | (simp at h; done)) | refine zA ?_ | refine zN ?_ | refine zO ?_ | refine zP ?_ | refine zB ?_ | refine lB ?_ | refine lBA ?_ | refine zK ?_ | refine s1 ?_ | refine sA ?_ | refine pS ?_ | refine LK.gr (Gr.bslV rfl rfl rfl rfl) ?_ | refine Ask.of (Gr.bslV rfl rfl rfl rfl) ?_ | refine Kx.nil ?_ | refine Kx.stp rfl rfl Qs ?_ | refine kA ?_ | refine kS ?_ | (refine Kx.frzR 0 rfl ?_ <;> refine kF ?_) | refine kP ?_ | refine k1 ?_ | refine kB ?_ | refine kL ?_ | refine zC ?_ | refine zD ?_ | fail))
      rename_i A3 q3 cp3
      (conv => whnf); (refine Nxt.of ((d + 1, (A3, q3, cp3))) [2, 3, 4, 11, 12, 13, 14, 15, 16, 17, 18, 19, 20, 21, 22, 23, 24, 25, 26, 27, 28, 29, 30, 31, 32, 33, 34, 35, 36, 37, 38, 39, 40, 41] Qr Qr Qr ?_ ?_ Qy ?_ <;> (try dsimp only) <;> (try omega))
      rw [someL_snoc, Lg, List.map_append]
      exact Qs
  · obtain rfl : d = p.duties.length := by omega
    repeat' ((conv => whnf) <;> (first | refine zM ?_ | refine zW ?_ | intro _ | exact zF | refine Br.tt ?_ | refine Br.ff ?_ | (refine Br.mk (fun h => ?_) (fun h => ?_) <;> (try simp only [sh] at h) <;> try first | (exfalso; omega) | exact absurd trivial h | (simp at h; done)) | refine zA ?_ | refine zN ?_ | refine zO ?_ | refine zP ?_ | refine zB ?_ | refine lB ?_ | refine lBA ?_ | refine zK ?_ | refine s1 ?_ | refine sA ?_ | refine zC ?_ | fail))
    conv => whnf
    exact .out _ Qs ⟨_, _, _, rfl, rfl⟩
end Go.Proofs.YtecemgicnboaaaaGreat
