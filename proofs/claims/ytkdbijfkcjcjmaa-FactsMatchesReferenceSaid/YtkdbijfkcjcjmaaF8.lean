/-
  Walks: the law FactsMatchesReference.
  Conditions: those of each theorem; the head's contract is a premise here.
-/
import Derived.Test.YtkdbijfkcjcjmaaF3
import Derived.Test.YtkdbijfkcjcjmaaF3P
import Derived.Test.YtkdbijfkcjcjmaaF5B
import Derived.Test.YtkdbijfkcjcjmaaF5C
import Derived.Test.YtkdbijfkcjcjmaaF7A
namespace Go.Proofs.Ytkdbijfkcjcjmaa
open Go.E2 Go.Wage
set_option maxHeartbeats 8000000 in
theorem kMatches_ok (hh : FnA Try.prog 11 [] (B true)) (fs : List Fa) (f : Fa) (p n : ByteArray) (d t o : Int) (hsz : ∀ g ∈ fs, okZ g) (hlen : fs.length ≤ 9223372036854775807) (hf : okZ f) :
    FnA Try.prog 3 [stav fs, fcav f, .v (.string p), .v (.string n), I d, I t, I o] (B true) := by
  have hl : (fs.map fcav).length = fs.length := by simp
  by_cases hb : fs.length ≤ 420
  · have c1 := record_ok fs f hsz hf (by omega)
    have c2 := aRecord_ok fs f hsz hf (by omega)
    have c3 := value_ok fs p n d t hsz (by omega)
    have c4 := aValue_ok fs p n d t hsz (by omega)
    have c5 := valid_ok fs hsz (by omega)
    have c6 := aValid_ok fs hsz (by omega)
    have hr : (recR fs f).1.length ≤ fs.length + 1 := by
      rcases rec_iff fs f with ⟨e, _⟩ | ⟨_, e, _⟩ <;> rw [e] <;> simp
    have c7 := aSame_ok (recR fs f).1 (recR fs f).1 (by omega) (by omega)
    rw [decide_eq_true rfl] at c7
    have c8 := fChanged_ok fs p n t o hsz (by omega)
    have c9 := aChanged_ok fs p n t o hsz (by omega)
    have hcl := chg_len (p := p) (n := n) (b := t) (a := o) hb
    have c10 := aSpans_ok (chgR fs p n t o) (chgR fs p n t o) (by omega) (by omega)
    rw [decide_eq_true rfl] at c10
    have c11 := fPeople_ok fs hsz (by omega)
    have c12 := aPeople_ok fs hsz (by omega)
    have hpl : (if validF fs then pplR fs else []).length ≤ 1000 := by
      have := (ppl_spec fs).2.2
      split
      · omega
      · simp
    have c13 := aStrings_ok (if validF fs then pplR fs else []) (if validF fs then pplR fs else []) (by omega) (by omega)
    rw [decide_eq_true rfl] at c13
    refine fn_run (T := tab) Try.func3 rfl Try.ntmps3 rfl Try.results3 (fun _ => ?_)
    repeat' ((conv => whnf) <;> (first | refine Must.mk (fun h => h) ?_ | refine Must.mk (fun _ => rfl) ?_ | refine Must.mk Qw ?_ | intro _ | exact Fin.pure rfl | refine Fin.pure ?_ | refine Br.tt ?_ | refine Br.ff ?_ | (refine Br.mk (fun h => ?_) (fun h => ?_) <;> (try simp only [sh] at h) <;> (try first | (exfalso; omega) | exact absurd trivial h | (exfalso; simp at h; done))) | refine Ix.at ‹_› Qw ?_ | refine Ix.mapN Qw ?_ | refine Ix.mapN1 Qw ?_ | refine Ix.map Qw ?_ | refine Ix.at Qi Qw ?_ | refine Quo.nn Qw ?_ | refine Quo.t Qw ?_ | refine Rem.nn Qw ?_ | refine Rem.t Qw ?_ | refine LK.callA ent11 (hh) rfl rfl (SbL.refl _) ?_ | refine Ask.callA ent11 (fun h => hh) rfl rfl (SbL.refl _) ?_ | refine LK.callA ent11 (hh) rfl rfl Ql ?_ | refine Ask.callA ent11 (fun h => hh) rfl rfl Ql ?_ | refine LK.callA ent12 (c1) rfl rfl (SbL.refl _) ?_ | refine Ask.callA ent12 (fun h => c1) rfl rfl (SbL.refl _) ?_ | refine LK.callA ent12 (c1) rfl rfl Ql ?_ | refine Ask.callA ent12 (fun h => c1) rfl rfl Ql ?_ | refine LK.callA ent13 (c2) rfl rfl (SbL.refl _) ?_ | refine Ask.callA ent13 (fun h => c2) rfl rfl (SbL.refl _) ?_ | refine LK.callA ent13 (c2) rfl rfl Ql ?_ | refine Ask.callA ent13 (fun h => c2) rfl rfl Ql ?_ | refine LK.callA ent14 (c3) rfl rfl (SbL.refl _) ?_ | refine Ask.callA ent14 (fun h => c3) rfl rfl (SbL.refl _) ?_ | refine LK.callA ent14 (c3) rfl rfl Ql ?_ | refine Ask.callA ent14 (fun h => c3) rfl rfl Ql ?_ | refine LK.callA ent15 (c4) rfl rfl (SbL.refl _) ?_ | refine Ask.callA ent15 (fun h => c4) rfl rfl (SbL.refl _) ?_ | refine LK.callA ent15 (c4) rfl rfl Ql ?_ | refine Ask.callA ent15 (fun h => c4) rfl rfl Ql ?_ | refine LK.callA ent16 (c5) rfl rfl (SbL.refl _) ?_ | refine Ask.callA ent16 (fun h => c5) rfl rfl (SbL.refl _) ?_ | refine LK.callA ent16 (c5) rfl rfl Ql ?_ | refine Ask.callA ent16 (fun h => c5) rfl rfl Ql ?_ | refine LK.callA ent17 (c6) rfl rfl (SbL.refl _) ?_ | refine Ask.callA ent17 (fun h => c6) rfl rfl (SbL.refl _) ?_ | refine LK.callA ent17 (c6) rfl rfl Ql ?_ | refine Ask.callA ent17 (fun h => c6) rfl rfl Ql ?_ | refine LK.callA ent18 (c7) rfl rfl (SbL.refl _) ?_ | refine Ask.callA ent18 (fun h => c7) rfl rfl (SbL.refl _) ?_ | refine LK.callA ent18 (c7) rfl rfl Ql ?_ | refine Ask.callA ent18 (fun h => c7) rfl rfl Ql ?_ | refine LK.callA ent20 (c8) rfl rfl (SbL.refl _) ?_ | refine Ask.callA ent20 (fun h => c8) rfl rfl (SbL.refl _) ?_ | refine LK.callA ent20 (c8) rfl rfl Ql ?_ | refine Ask.callA ent20 (fun h => c8) rfl rfl Ql ?_ | refine LK.callA ent21 (c9) rfl rfl (SbL.refl _) ?_ | refine Ask.callA ent21 (fun h => c9) rfl rfl (SbL.refl _) ?_ | refine LK.callA ent21 (c9) rfl rfl Ql ?_ | refine Ask.callA ent21 (fun h => c9) rfl rfl Ql ?_ | refine LK.callA ent19 (c10) rfl rfl (SbL.refl _) ?_ | refine Ask.callA ent19 (fun h => c10) rfl rfl (SbL.refl _) ?_ | refine LK.callA ent19 (c10) rfl rfl Ql ?_ | refine Ask.callA ent19 (fun h => c10) rfl rfl Ql ?_ | refine LK.callA ent23 (c11) rfl rfl (SbL.refl _) ?_ | refine Ask.callA ent23 (fun h => c11) rfl rfl (SbL.refl _) ?_ | refine LK.callA ent23 (c11) rfl rfl Ql ?_ | refine Ask.callA ent23 (fun h => c11) rfl rfl Ql ?_ | refine LK.callA ent24 (c12) rfl rfl (SbL.refl _) ?_ | refine Ask.callA ent24 (fun h => c12) rfl rfl (SbL.refl _) ?_ | refine LK.callA ent24 (c12) rfl rfl Ql ?_ | refine Ask.callA ent24 (fun h => c12) rfl rfl Ql ?_ | refine LK.callA ent22 (c13) rfl rfl (SbL.refl _) ?_ | refine Ask.callA ent22 (fun h => c13) rfl rfl (SbL.refl _) ?_ | refine LK.callA ent22 (c13) rfl rfl Ql ?_ | refine Ask.callA ent22 (fun h => c13) rfl rfl Ql ?_ | refine Ask.ldB (T := tab) 0 rfl rfl rfl rfl ?_ | refine Ask.ldB (T := tab) 1 rfl rfl rfl rfl ?_ | refine Ask.ldB (T := tab) 2 rfl rfl rfl rfl ?_ | refine Ask.ldB (T := tab) 3 rfl rfl rfl rfl ?_ | refine Ask.ldBA (T := tab) 0 rfl rfl rfl rfl ?_ | refine Ask.ldBA (T := tab) 1 rfl rfl rfl rfl ?_ | refine Ask.ldBA (T := tab) 2 rfl rfl rfl rfl ?_ | refine Ask.ldBA (T := tab) 3 rfl rfl rfl rfl ?_ | refine AskR.cellA (T := tab) 0 rfl rfl rfl rfl ?_ | refine AskR.cellA (T := tab) 1 rfl rfl rfl rfl ?_ | refine AskR.cellA (T := tab) 2 rfl rfl rfl rfl ?_ | refine AskR.cellA (T := tab) 3 rfl rfl rfl rfl ?_ | refine AskR.cell1 (T := tab) 0 rfl rfl rfl rfl ?_ | refine AskR.cell1 (T := tab) 1 rfl rfl rfl rfl ?_ | refine AskR.cell1 (T := tab) 2 rfl rfl rfl rfl ?_ | refine AskR.cell1 (T := tab) 3 rfl rfl rfl rfl ?_ | refine LK.askW rfl ?_ | refine LK.st1 0 rfl rfl rfl rfl rfl rfl rfl ?_ | refine LK.st1 1 rfl rfl rfl rfl rfl rfl rfl ?_ | refine LK.st1 2 rfl rfl rfl rfl rfl rfl rfl ?_ | refine LK.st1 3 rfl rfl rfl rfl rfl rfl rfl ?_ | refine LK.stA 0 rfl rfl rfl rfl rfl rfl rfl rfl ?_ | refine LK.stA 1 rfl rfl rfl rfl rfl rfl rfl rfl ?_ | refine LK.stA 2 rfl rfl rfl rfl rfl rfl rfl rfl ?_ | refine LK.stA 3 rfl rfl rfl rfl rfl rfl rfl rfl ?_ | refine CK.any false Qk ?_ | fail))
    refine congrArg B ?_
    simp
  · refine fn_run (T := tab) Try.func3 rfl Try.ntmps3 rfl Try.results3 (fun _ => ?_)
    repeat' ((conv => whnf) <;> (first | refine Must.mk (fun h => h) ?_ | refine Must.mk (fun _ => rfl) ?_ | refine Must.mk Qw ?_ | intro _ | exact Fin.pure rfl | refine Fin.pure ?_ | refine Br.tt ?_ | refine Br.ff ?_ | (refine Br.mk (fun h => ?_) (fun h => ?_) <;> (try simp only [sh] at h) <;> (try first | (exfalso; omega) | exact absurd trivial h | (exfalso; simp at h; done))) | refine Ix.at ‹_› Qw ?_ | refine Ix.mapN Qw ?_ | refine Ix.mapN1 Qw ?_ | refine Ix.map Qw ?_ | refine Ix.at Qi Qw ?_ | refine Quo.nn Qw ?_ | refine Quo.t Qw ?_ | refine Rem.nn Qw ?_ | refine Rem.t Qw ?_ | refine LK.callA ent11 (hh) rfl rfl (SbL.refl _) ?_ | refine Ask.callA ent11 (fun h => hh) rfl rfl (SbL.refl _) ?_ | refine LK.callA ent11 (hh) rfl rfl Ql ?_ | refine Ask.callA ent11 (fun h => hh) rfl rfl Ql ?_ | refine Ask.ldB (T := tab) 0 rfl rfl rfl rfl ?_ | refine Ask.ldB (T := tab) 1 rfl rfl rfl rfl ?_ | refine Ask.ldBA (T := tab) 0 rfl rfl rfl rfl ?_ | refine Ask.ldBA (T := tab) 1 rfl rfl rfl rfl ?_ | refine AskR.cellA (T := tab) 0 rfl rfl rfl rfl ?_ | refine AskR.cellA (T := tab) 1 rfl rfl rfl rfl ?_ | refine AskR.cell1 (T := tab) 0 rfl rfl rfl rfl ?_ | refine AskR.cell1 (T := tab) 1 rfl rfl rfl rfl ?_ | refine LK.askW rfl ?_ | refine LK.st1 0 rfl rfl rfl rfl rfl rfl rfl ?_ | refine LK.st1 1 rfl rfl rfl rfl rfl rfl rfl ?_ | refine LK.stA 0 rfl rfl rfl rfl rfl rfl rfl rfl ?_ | refine LK.stA 1 rfl rfl rfl rfl rfl rfl rfl rfl ?_ | refine CK.any false Qk ?_ | fail))
end Go.Proofs.Ytkdbijfkcjcjmaa
