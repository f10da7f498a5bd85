/-
  Walks: RosterLimits.
  Conditions: those of each theorem.
-/
import Derived.Test.YtlnokdkhglmogaaGreatRO9
import Derived.Test.YtlnokdkhglmogaaGreatZV
namespace Go.Proofs.YtlnokdkhglmogaaGreat
open Go.E2 Go.Wage
structure PlZ (p : Pl) : Prop where
  ch : p.zone.chs.length ≤ 9223372036854775807
  du : p.duties.length ≤ 9223372036854775807
  wk : p.workers.length ≤ 9223372036854775807
  aw : ∀ w ∈ p.workers, w.away.length ≤ 9223372036854775807
theorem small_of {p : Pl} {ro : List Int} (h : smallV p ro 9 = true) : Small p := by
  have h := smallV_iff.1 h
  exact ⟨by omega, by omega, by omega, fun w hw => by have := h.2.2.2.2 w hw; omega⟩
abbrev U (n : Int) : AV := .v (.int .u16 n)
set_option maxRecDepth 4000 in
set_option maxHeartbeats 4000000 in
theorem xLimits_all (p : Pl) (ro : List Int) (r w m : Int) (hz : PlZ p) (hr : ro.length ≤ 9223372036854775807) (h1 : 0 ≤ r ∧ r ≤ 65535) (h2 : 0 ≤ w ∧ w ≤ 65535) (h3 : 0 ≤ m ∧ m ≤ 65535) :
    FnA Tryz.prog 8 [.agg (pcs p), .sl 1 (ro.map I), U r, U w, U m] (B true) := by
  have c0 := xHead_ok
  have c1 := vSmall_ok p ro 9 hz.ch hz.wk hr hz.aw
  by_cases hs : smallV p ro 9 = true
  · have hsm := small_of hs
    have c2 := oBad_ok p ro hsm
    rw [hs] at c1
    have hsm2 : Small (relP p r w m) := ⟨hsm.ch, hsm.du, hsm.wk, hsm.aw⟩
    have c3 := oBad_ok (relP p r w m) ro hsm2
    have hlb : ((badP p ro).map viav).length = (badP p ro).length := by simp
    by_cases hk : okRo p ro = true
    · rw [if_pos hk, if_pos hk] at c2
      by_cases hb : badP p ro = []
      · have hl : limOk p.lim = true := by
          unfold okRo at hk
          exact (validP_iff.1 (Bool.and_eq_true_iff.1 hk).1).2.2.2.2.2
        unfold limOk inB at hl
        simp only [Bool.and_eq_true, decide_eq_true_eq] at hl
        rw [if_pos (relP_ok h1.1 h2.1 h3.1 hk), if_pos (relP_ok h1.1 h2.1 h3.1 hk), relP_bad h1.1 h2.1 h3.1 hk hb] at c3
        rw [hb] at c2
        refine fn_run (T := tab) Tryz.func8 rfl Tryz.ntmps8 rfl Tryz.results8 (fun _ => ?_)
        repeat' ((conv => whnf) <;> (first | refine Must.mk (fun h => h) ?_ | refine Must.mk (fun _ => rfl) ?_ | refine Must.mk Qw ?_ | refine MW.ok Qw ?_ | intro _ | exact Fin.pure rfl | refine Fin.pure ?_ | refine Br.tt ?_ | refine Br.ff ?_ | (refine Br.mk (fun h => ?_) (fun h => ?_) <;> (try simp only [sh] at h) <;> (try first | (exfalso; omega) | exact absurd trivial h | (exfalso; simp at h; done))) | refine Ix.at ‹_› Qw ?_ | refine Ix.mapN Qw ?_ | refine Ix.mapN1 Qw ?_ | refine Ix.map Qw ?_ | refine Ix.at Qi Qw ?_ | refine Quo.nn Qw ?_ | refine Quo.t Qw ?_ | refine Rem.nn Qw ?_ | refine Rem.t Qw ?_ | refine LK.callA ent11 (c0) rfl rfl (SbL.refl _) ?_ | refine Ask.callA ent11 (fun h => c0) rfl rfl (SbL.refl _) ?_ | refine LK.callA ent11 (c0) rfl rfl Ql ?_ | refine Ask.callA ent11 (fun h => c0) rfl rfl Ql ?_ | refine LK.callA ent12 (c1) rfl rfl (SbL.refl _) ?_ | refine Ask.callA ent12 (fun h => c1) rfl rfl (SbL.refl _) ?_ | refine LK.callA ent12 (c1) rfl rfl Ql ?_ | refine Ask.callA ent12 (fun h => c1) rfl rfl Ql ?_ | refine LK.callA ent13 (c2) rfl rfl (SbL.refl _) ?_ | refine Ask.callA ent13 (fun h => c2) rfl rfl (SbL.refl _) ?_ | refine LK.callA ent13 (c2) rfl rfl Ql ?_ | refine Ask.callA ent13 (fun h => c2) rfl rfl Ql ?_ | refine LK.callA ent13 (c3) rfl rfl (SbL.refl _) ?_ | refine Ask.callA ent13 (fun h => c3) rfl rfl (SbL.refl _) ?_ | refine LK.callA ent13 (c3) rfl rfl Ql ?_ | refine Ask.callA ent13 (fun h => c3) rfl rfl Ql ?_ | refine Ask.ldB (T := tab) 0 rfl rfl rfl rfl ?_ | refine Ask.ldB (T := tab) 1 rfl rfl rfl rfl ?_ | refine Ask.ldBA (T := tab) 0 rfl rfl rfl rfl ?_ | refine Ask.ldBA (T := tab) 1 rfl rfl rfl rfl ?_ | refine AskR.cellA (T := tab) 0 rfl rfl rfl rfl ?_ | refine AskR.cellA (T := tab) 1 rfl rfl rfl rfl ?_ | refine AskR.cell1 (T := tab) 0 rfl rfl rfl rfl ?_ | refine AskR.cell1 (T := tab) 1 rfl rfl rfl rfl ?_ | refine LK.askW rfl ?_ | refine LK.st1 0 rfl rfl rfl rfl rfl rfl rfl ?_ | refine LK.st1 1 rfl rfl rfl rfl rfl rfl rfl ?_ | refine LK.stA 0 rfl rfl rfl rfl rfl rfl rfl rfl ?_ | refine LK.stA 1 rfl rfl rfl rfl rfl rfl rfl rfl ?_ | refine CK.any false Qk ?_ | fail))
      · have hne : 0 < (badP p ro).length := List.length_pos_iff.2 hb
        refine fn_run (T := tab) Tryz.func8 rfl Tryz.ntmps8 rfl Tryz.results8 (fun _ => ?_)
        repeat' ((conv => whnf) <;> (first | refine Must.mk (fun h => h) ?_ | refine Must.mk (fun _ => rfl) ?_ | refine Must.mk Qw ?_ | refine MW.ok Qw ?_ | intro _ | exact Fin.pure rfl | refine Fin.pure ?_ | refine Br.tt ?_ | refine Br.ff ?_ | (refine Br.mk (fun h => ?_) (fun h => ?_) <;> (try simp only [sh] at h) <;> (try first | (exfalso; omega) | exact absurd trivial h | (exfalso; simp at h; done))) | refine Ix.at ‹_› Qw ?_ | refine Ix.mapN Qw ?_ | refine Ix.mapN1 Qw ?_ | refine Ix.map Qw ?_ | refine Ix.at Qi Qw ?_ | refine Quo.nn Qw ?_ | refine Quo.t Qw ?_ | refine Rem.nn Qw ?_ | refine Rem.t Qw ?_ | refine LK.callA ent11 (c0) rfl rfl (SbL.refl _) ?_ | refine Ask.callA ent11 (fun h => c0) rfl rfl (SbL.refl _) ?_ | refine LK.callA ent11 (c0) rfl rfl Ql ?_ | refine Ask.callA ent11 (fun h => c0) rfl rfl Ql ?_ | refine LK.callA ent12 (c1) rfl rfl (SbL.refl _) ?_ | refine Ask.callA ent12 (fun h => c1) rfl rfl (SbL.refl _) ?_ | refine LK.callA ent12 (c1) rfl rfl Ql ?_ | refine Ask.callA ent12 (fun h => c1) rfl rfl Ql ?_ | refine LK.callA ent13 (c2) rfl rfl (SbL.refl _) ?_ | refine Ask.callA ent13 (fun h => c2) rfl rfl (SbL.refl _) ?_ | refine LK.callA ent13 (c2) rfl rfl Ql ?_ | refine Ask.callA ent13 (fun h => c2) rfl rfl Ql ?_ | refine Ask.ldB (T := tab) 0 rfl rfl rfl rfl ?_ | refine Ask.ldB (T := tab) 1 rfl rfl rfl rfl ?_ | refine Ask.ldBA (T := tab) 0 rfl rfl rfl rfl ?_ | refine Ask.ldBA (T := tab) 1 rfl rfl rfl rfl ?_ | refine AskR.cellA (T := tab) 0 rfl rfl rfl rfl ?_ | refine AskR.cellA (T := tab) 1 rfl rfl rfl rfl ?_ | refine AskR.cell1 (T := tab) 0 rfl rfl rfl rfl ?_ | refine AskR.cell1 (T := tab) 1 rfl rfl rfl rfl ?_ | refine LK.askW rfl ?_ | refine LK.st1 0 rfl rfl rfl rfl rfl rfl rfl ?_ | refine LK.st1 1 rfl rfl rfl rfl rfl rfl rfl ?_ | refine LK.stA 0 rfl rfl rfl rfl rfl rfl rfl rfl ?_ | refine LK.stA 1 rfl rfl rfl rfl rfl rfl rfl rfl ?_ | refine CK.any false Qk ?_ | fail))
    · rw [if_neg hk, if_neg hk] at c2
      refine fn_run (T := tab) Tryz.func8 rfl Tryz.ntmps8 rfl Tryz.results8 (fun _ => ?_)
      repeat' ((conv => whnf) <;> (first | refine Must.mk (fun h => h) ?_ | refine Must.mk (fun _ => rfl) ?_ | refine Must.mk Qw ?_ | refine MW.ok Qw ?_ | intro _ | exact Fin.pure rfl | refine Fin.pure ?_ | refine Br.tt ?_ | refine Br.ff ?_ | (refine Br.mk (fun h => ?_) (fun h => ?_) <;> (try simp only [sh] at h) <;> (try first | (exfalso; omega) | exact absurd trivial h | (exfalso; simp at h; done))) | refine Ix.at ‹_› Qw ?_ | refine Ix.mapN Qw ?_ | refine Ix.mapN1 Qw ?_ | refine Ix.map Qw ?_ | refine Ix.at Qi Qw ?_ | refine Quo.nn Qw ?_ | refine Quo.t Qw ?_ | refine Rem.nn Qw ?_ | refine Rem.t Qw ?_ | refine LK.callA ent11 (c0) rfl rfl (SbL.refl _) ?_ | refine Ask.callA ent11 (fun h => c0) rfl rfl (SbL.refl _) ?_ | refine LK.callA ent11 (c0) rfl rfl Ql ?_ | refine Ask.callA ent11 (fun h => c0) rfl rfl Ql ?_ | refine LK.callA ent12 (c1) rfl rfl (SbL.refl _) ?_ | refine Ask.callA ent12 (fun h => c1) rfl rfl (SbL.refl _) ?_ | refine LK.callA ent12 (c1) rfl rfl Ql ?_ | refine Ask.callA ent12 (fun h => c1) rfl rfl Ql ?_ | refine LK.callA ent13 (c2) rfl rfl (SbL.refl _) ?_ | refine Ask.callA ent13 (fun h => c2) rfl rfl (SbL.refl _) ?_ | refine LK.callA ent13 (c2) rfl rfl Ql ?_ | refine Ask.callA ent13 (fun h => c2) rfl rfl Ql ?_ | refine Ask.ldB (T := tab) 0 rfl rfl rfl rfl ?_ | refine Ask.ldB (T := tab) 1 rfl rfl rfl rfl ?_ | refine Ask.ldBA (T := tab) 0 rfl rfl rfl rfl ?_ | refine Ask.ldBA (T := tab) 1 rfl rfl rfl rfl ?_ | refine AskR.cellA (T := tab) 0 rfl rfl rfl rfl ?_ | refine AskR.cellA (T := tab) 1 rfl rfl rfl rfl ?_ | refine AskR.cell1 (T := tab) 0 rfl rfl rfl rfl ?_ | refine AskR.cell1 (T := tab) 1 rfl rfl rfl rfl ?_ | refine LK.askW rfl ?_ | refine LK.st1 0 rfl rfl rfl rfl rfl rfl rfl ?_ | refine LK.st1 1 rfl rfl rfl rfl rfl rfl rfl ?_ | refine LK.stA 0 rfl rfl rfl rfl rfl rfl rfl rfl ?_ | refine LK.stA 1 rfl rfl rfl rfl rfl rfl rfl rfl ?_ | refine CK.any false Qk ?_ | fail))
  · rw [Bool.eq_false_iff.2 hs] at c1
    refine fn_run (T := tab) Tryz.func8 rfl Tryz.ntmps8 rfl Tryz.results8 (fun _ => ?_)
    repeat' ((conv => whnf) <;> (first | refine Must.mk (fun h => h) ?_ | refine Must.mk (fun _ => rfl) ?_ | refine Must.mk Qw ?_ | refine MW.ok Qw ?_ | intro _ | exact Fin.pure rfl | refine Fin.pure ?_ | refine Br.tt ?_ | refine Br.ff ?_ | (refine Br.mk (fun h => ?_) (fun h => ?_) <;> (try simp only [sh] at h) <;> (try first | (exfalso; omega) | exact absurd trivial h | (exfalso; simp at h; done))) | refine Ix.at ‹_› Qw ?_ | refine Ix.mapN Qw ?_ | refine Ix.mapN1 Qw ?_ | refine Ix.map Qw ?_ | refine Ix.at Qi Qw ?_ | refine Quo.nn Qw ?_ | refine Quo.t Qw ?_ | refine Rem.nn Qw ?_ | refine Rem.t Qw ?_ | refine LK.callA ent11 (c0) rfl rfl (SbL.refl _) ?_ | refine Ask.callA ent11 (fun h => c0) rfl rfl (SbL.refl _) ?_ | refine LK.callA ent11 (c0) rfl rfl Ql ?_ | refine Ask.callA ent11 (fun h => c0) rfl rfl Ql ?_ | refine LK.callA ent12 (c1) rfl rfl (SbL.refl _) ?_ | refine Ask.callA ent12 (fun h => c1) rfl rfl (SbL.refl _) ?_ | refine LK.callA ent12 (c1) rfl rfl Ql ?_ | refine Ask.callA ent12 (fun h => c1) rfl rfl Ql ?_ | refine Ask.ldB (T := tab) 0 rfl rfl rfl rfl ?_ | refine Ask.ldB (T := tab) 1 rfl rfl rfl rfl ?_ | refine Ask.ldBA (T := tab) 0 rfl rfl rfl rfl ?_ | refine Ask.ldBA (T := tab) 1 rfl rfl rfl rfl ?_ | refine AskR.cellA (T := tab) 0 rfl rfl rfl rfl ?_ | refine AskR.cellA (T := tab) 1 rfl rfl rfl rfl ?_ | refine AskR.cell1 (T := tab) 0 rfl rfl rfl rfl ?_ | refine AskR.cell1 (T := tab) 1 rfl rfl rfl rfl ?_ | refine LK.askW rfl ?_ | refine LK.st1 0 rfl rfl rfl rfl rfl rfl rfl ?_ | refine LK.st1 1 rfl rfl rfl rfl rfl rfl rfl ?_ | refine LK.stA 0 rfl rfl rfl rfl rfl rfl rfl rfl ?_ | refine LK.stA 1 rfl rfl rfl rfl rfl rfl rfl rfl ?_ | refine CK.any false Qk ?_ | fail))
end Go.Proofs.YtlnokdkhglmogaaGreat
