/-
  Walks: the law FactsChanged.
  Conditions: those of each theorem; the head's contract is a premise here.
-/
import Derived.Test.YtkdbijfkcjcjmaaF7A
import Derived.Test.YtkdbijfkcjcjmaaF3
namespace Go.Proofs.Ytkdbijfkcjcjmaa
open Go.E2 Go.Wage
set_option maxHeartbeats 8000000 in
theorem kChanged_ok (hh : FnA Try.prog 11 [] (B true)) (fs : List Fa) (p n : ByteArray) (b a : Int) (days : List Int) (hsz : ∀ g ∈ fs, okZ g) (hlen : fs.length ≤ 1000000000000) (hdl : days.length ≤ 1000000000000) :
    FnA Try.prog 10 [stav fs, .v (.string p), .v (.string n), I b, I a, .sl 1 (days.map I)] (B true) := by
  have hl : (fs.map fcav).length = fs.length := by simp
  have hl2 : (days.map I).length = days.length := by simp
  by_cases hb : fs.length ≤ 420
  · have c1 := fChanged_ok fs p n b a hsz (by omega)
    have c2 := fChanged_ok fs p n a b hsz (by omega)
    have hlen2 := chg_len (p := p) (n := n) (b := b) (a := a) hb
    have c3 := sValid_ok (chgR fs p n b a) (by omega) (chg_idem fs p n b a)
    rw [← chg_sym fs p n b a] at c2
    have c4 := aSpans_ok (chgR fs p n b a) (chgR fs p n b a) (by omega) (by omega)
    rw [decide_eq_true rfl] at c4
    have c5 := fun d => sHas_ok (chgR fs p n b a) d (by omega)
    have c6 := chg_has fs p n b a
    have c7 := fun d => value_ok fs p n d b hsz (by omega)
    have c8 := fun d => value_ok fs p n d a hsz (by omega)
    have hll : ((chgR fs p n b a).map spav).length = (chgR fs p n b a).length := by simp
    unfold hasB at c6
    generalize chgR fs p n b a = C at *
    refine fn_run (T := tab) Try.func10 rfl Try.ntmps10 rfl Try.results10 (fun _ => ?_)
    repeat' ((conv => whnf) <;> (first | refine Must.mk (fun h => h) ?_ | refine Must.mk (fun _ => rfl) ?_ | refine Must.mk Qw ?_ | intro _ | exact Fin.pure rfl | refine Fin.pure ?_ | refine Br.tt ?_ | refine Br.ff ?_ | (refine Br.mk (fun h => ?_) (fun h => ?_) <;> (try simp only [sh] at h) <;> (try first | (exfalso; omega) | exact absurd trivial h | (exfalso; simp at h; done))) | refine Ix.at ‹_› Qw ?_ | refine Ix.mapN Qw ?_ | refine Ix.mapN1 Qw ?_ | refine Ix.map Qw ?_ | refine Ix.at Qi Qw ?_ | refine Quo.nn Qw ?_ | refine Quo.t Qw ?_ | refine Rem.nn Qw ?_ | refine Rem.t Qw ?_ | refine LK.callA ent11 (hh) rfl rfl (SbL.refl _) ?_ | refine Ask.callA ent11 (fun h => hh) rfl rfl (SbL.refl _) ?_ | refine LK.callA ent11 (hh) rfl rfl Ql ?_ | refine Ask.callA ent11 (fun h => hh) rfl rfl Ql ?_ | refine LK.callA ent20 (c1) rfl rfl (SbL.refl _) ?_ | refine Ask.callA ent20 (fun h => c1) rfl rfl (SbL.refl _) ?_ | refine LK.callA ent20 (c1) rfl rfl Ql ?_ | refine Ask.callA ent20 (fun h => c1) rfl rfl Ql ?_ | refine LK.callA ent20 (c2) rfl rfl (SbL.refl _) ?_ | refine Ask.callA ent20 (fun h => c2) rfl rfl (SbL.refl _) ?_ | refine LK.callA ent20 (c2) rfl rfl Ql ?_ | refine Ask.callA ent20 (fun h => c2) rfl rfl Ql ?_ | refine LK.callA ent26 (c3) rfl rfl (SbL.refl _) ?_ | refine Ask.callA ent26 (fun h => c3) rfl rfl (SbL.refl _) ?_ | refine LK.callA ent26 (c3) rfl rfl Ql ?_ | refine Ask.callA ent26 (fun h => c3) rfl rfl Ql ?_ | refine LK.callA ent19 (c4) rfl rfl (SbL.refl _) ?_ | refine Ask.callA ent19 (fun h => c4) rfl rfl (SbL.refl _) ?_ | refine LK.callA ent19 (c4) rfl rfl Ql ?_ | refine Ask.callA ent19 (fun h => c4) rfl rfl Ql ?_ | refine Ask.ldB (T := tab) 0 rfl rfl rfl rfl ?_ | refine Ask.ldB (T := tab) 1 rfl rfl rfl rfl ?_ | refine Ask.ldBA (T := tab) 0 rfl rfl rfl rfl ?_ | refine Ask.ldBA (T := tab) 1 rfl rfl rfl rfl ?_ | refine AskR.cellA (T := tab) 0 rfl rfl rfl rfl ?_ | refine AskR.cellA (T := tab) 1 rfl rfl rfl rfl ?_ | refine AskR.cell1 (T := tab) 0 rfl rfl rfl rfl ?_ | refine AskR.cell1 (T := tab) 1 rfl rfl rfl rfl ?_ | refine LK.askW rfl ?_ | refine LK.st1 0 rfl rfl rfl rfl rfl rfl rfl ?_ | refine LK.st1 1 rfl rfl rfl rfl rfl rfl rfl ?_ | refine LK.stA 0 rfl rfl rfl rfl rfl rfl rfl rfl ?_ | refine LK.stA 1 rfl rfl rfl rfl rfl rfl rfl rfl ?_ | refine CK.any false Qk ?_ | fail))
    conv => whnf
    (conv => whnf); refine CK.loop [12, 15, 16, 17, 18, 19, 20, 21, 22, 59, 60, 61, 62, 63, 64, 65, 66, 67, 68, 69, 70, 71, 72, 73, 74, 75, 76, 77, 78, 79, 80, 81, 82, 83, 84, 85, 86, 87, 88, 89, 90, 91, 92, 93, 94, 95, 96, 97, 98, 99, 100, 101, 102, 103, 104, 105, 106, 107, 108, 109, 110, 111, 112, 113, 114, 115, 116, 117, 118, 119, 120, 121, 122, 123, 124, 125] (σ := Nat) (fun k => k ≤ days.length) (fun k => [(15, I k)]) (fun _ => _) (fun k => days.length - k) 0 (Nat.zero_le _) Qy (List.Sublist.refl _) ?_
    conv => whnf
    rintro k hk
    by_cases hlt : k < days.length
    · have e5 := c5 (days.getD k default)
      have e6 := c6 (days.getD k default)
      rw [e6] at e5
      have e7 := c7 (days.getD k default)
      have e8 := c8 (days.getD k default)
      generalize valR fs p n (days.getD k default) b = x at *
      generalize valR fs p n (days.getD k default) a = y at *
      obtain ⟨x1, x2, x3⟩ := x
      obtain ⟨y1, y2, y3⟩ := y
      repeat' ((conv => whnf) <;> (first | (refine Nxt.of (k + 1) [12, 15, 16, 17, 18, 19, 20, 21, 22, 59, 60, 61, 62, 63, 64, 65, 66, 67, 68, 69, 70, 71, 72, 73, 74, 75, 76, 77, 78, 79, 80, 81, 82, 83, 84, 85, 86, 87, 88, 89, 90, 91, 92, 93, 94, 95, 96, 97, 98, 99, 100, 101, 102, 103, 104, 105, 106, 107, 108, 109, 110, 111, 112, 113, 114, 115, 116, 117, 118, 119, 120, 121, 122, 123, 124, 125] Qr Qr Qr ?_ ?_ Qy Qs <;> (try dsimp only) <;> (try omega)) | refine Must.mk (fun h => h) ?_ | refine Must.mk (fun _ => rfl) ?_ | refine Must.mk Qw ?_ | intro _ | exact Fin.pure rfl | refine Fin.pure ?_ | refine Br.tt ?_ | refine Br.ff ?_ | (refine Br.mk (fun h => ?_) (fun h => ?_) <;> (try simp only [sh] at h) <;> (try first | (exfalso; omega) | exact absurd trivial h | (exfalso; simp at h; done))) | refine Ix.at ‹_› Qw ?_ | refine Ix.mapN Qw ?_ | refine Ix.mapN1 Qw ?_ | refine Ix.map Qw ?_ | refine Ix.at Qi Qw ?_ | refine Quo.nn Qw ?_ | refine Quo.t Qw ?_ | refine Rem.nn Qw ?_ | refine Rem.t Qw ?_ | refine LK.callA ent14 (e7) rfl rfl (SbL.refl _) ?_ | refine Ask.callA ent14 (fun h => e7) rfl rfl (SbL.refl _) ?_ | refine LK.callA ent14 (e7) rfl rfl Ql ?_ | refine Ask.callA ent14 (fun h => e7) rfl rfl Ql ?_ | refine LK.callA ent14 (e8) rfl rfl (SbL.refl _) ?_ | refine Ask.callA ent14 (fun h => e8) rfl rfl (SbL.refl _) ?_ | refine LK.callA ent14 (e8) rfl rfl Ql ?_ | refine Ask.callA ent14 (fun h => e8) rfl rfl Ql ?_ | refine LK.callA ent27 (e5) rfl rfl (SbL.refl _) ?_ | refine Ask.callA ent27 (fun h => e5) rfl rfl (SbL.refl _) ?_ | refine LK.callA ent27 (e5) rfl rfl Ql ?_ | refine Ask.callA ent27 (fun h => e5) rfl rfl Ql ?_ | refine Ask.ldB (T := tab) 0 rfl rfl rfl rfl ?_ | refine Ask.ldB (T := tab) 1 rfl rfl rfl rfl ?_ | refine Ask.ldBA (T := tab) 0 rfl rfl rfl rfl ?_ | refine Ask.ldBA (T := tab) 1 rfl rfl rfl rfl ?_ | refine AskR.cellA (T := tab) 0 rfl rfl rfl rfl ?_ | refine AskR.cellA (T := tab) 1 rfl rfl rfl rfl ?_ | refine AskR.cell1 (T := tab) 0 rfl rfl rfl rfl ?_ | refine AskR.cell1 (T := tab) 1 rfl rfl rfl rfl ?_ | refine LK.askW rfl ?_ | refine LK.st1 0 rfl rfl rfl rfl rfl rfl rfl ?_ | refine LK.st1 1 rfl rfl rfl rfl rfl rfl rfl ?_ | refine LK.stA 0 rfl rfl rfl rfl rfl rfl rfl rfl ?_ | refine LK.stA 1 rfl rfl rfl rfl rfl rfl rfl rfl ?_ | refine CK.any false Qk ?_ | fail))
      refine absurd ?_ h
      have e9 : (!decide ((x1, x2, x3) = (y1, y2, y3))) = (decide ¬x1 = y1 || decide ¬x2 = y2 || x3 != y3) := by
        by_cases g1 : x1 = y1 <;> by_cases g2 : x2 = y2 <;> cases x3 <;> cases y3 <;> simp [g1, g2]
      rw [e9]
    · repeat' ((conv => whnf) <;> (first | refine Must.mk (fun h => h) ?_ | refine Must.mk (fun _ => rfl) ?_ | refine Must.mk Qw ?_ | intro _ | exact Fin.pure rfl | refine Fin.pure ?_ | refine Br.tt ?_ | refine Br.ff ?_ | (refine Br.mk (fun h => ?_) (fun h => ?_) <;> (try simp only [sh] at h) <;> (try first | (exfalso; omega) | exact absurd trivial h | (exfalso; simp at h; done))) | refine Ix.at ‹_› Qw ?_ | refine Ix.mapN Qw ?_ | refine Ix.mapN1 Qw ?_ | refine Ix.map Qw ?_ | refine Ix.at Qi Qw ?_ | refine Quo.nn Qw ?_ | refine Quo.t Qw ?_ | refine Rem.nn Qw ?_ | refine Rem.t Qw ?_ | refine Ask.ldB (T := tab) 0 rfl rfl rfl rfl ?_ | refine Ask.ldB (T := tab) 1 rfl rfl rfl rfl ?_ | refine Ask.ldBA (T := tab) 0 rfl rfl rfl rfl ?_ | refine Ask.ldBA (T := tab) 1 rfl rfl rfl rfl ?_ | refine AskR.cellA (T := tab) 0 rfl rfl rfl rfl ?_ | refine AskR.cellA (T := tab) 1 rfl rfl rfl rfl ?_ | refine AskR.cell1 (T := tab) 0 rfl rfl rfl rfl ?_ | refine AskR.cell1 (T := tab) 1 rfl rfl rfl rfl ?_ | refine LK.askW rfl ?_ | refine LK.st1 0 rfl rfl rfl rfl rfl rfl rfl ?_ | refine LK.st1 1 rfl rfl rfl rfl rfl rfl rfl ?_ | refine LK.stA 0 rfl rfl rfl rfl rfl rfl rfl rfl ?_ | refine LK.stA 1 rfl rfl rfl rfl rfl rfl rfl rfl ?_ | refine CK.any false Qk ?_ | fail))
  · refine fn_run (T := tab) Try.func10 rfl Try.ntmps10 rfl Try.results10 (fun _ => ?_)
    repeat' ((conv => whnf) <;> (first | refine Must.mk (fun h => h) ?_ | refine Must.mk (fun _ => rfl) ?_ | refine Must.mk Qw ?_ | intro _ | exact Fin.pure rfl | refine Fin.pure ?_ | refine Br.tt ?_ | refine Br.ff ?_ | (refine Br.mk (fun h => ?_) (fun h => ?_) <;> (try simp only [sh] at h) <;> (try first | (exfalso; omega) | exact absurd trivial h | (exfalso; simp at h; done))) | refine Ix.at ‹_› Qw ?_ | refine Ix.mapN Qw ?_ | refine Ix.mapN1 Qw ?_ | refine Ix.map Qw ?_ | refine Ix.at Qi Qw ?_ | refine Quo.nn Qw ?_ | refine Quo.t Qw ?_ | refine Rem.nn Qw ?_ | refine Rem.t Qw ?_ | refine LK.callA ent11 (hh) rfl rfl (SbL.refl _) ?_ | refine Ask.callA ent11 (fun h => hh) rfl rfl (SbL.refl _) ?_ | refine LK.callA ent11 (hh) rfl rfl Ql ?_ | refine Ask.callA ent11 (fun h => hh) rfl rfl Ql ?_ | refine Ask.ldB (T := tab) 0 rfl rfl rfl rfl ?_ | refine Ask.ldB (T := tab) 1 rfl rfl rfl rfl ?_ | refine Ask.ldBA (T := tab) 0 rfl rfl rfl rfl ?_ | refine Ask.ldBA (T := tab) 1 rfl rfl rfl rfl ?_ | refine AskR.cellA (T := tab) 0 rfl rfl rfl rfl ?_ | refine AskR.cellA (T := tab) 1 rfl rfl rfl rfl ?_ | refine AskR.cell1 (T := tab) 0 rfl rfl rfl rfl ?_ | refine AskR.cell1 (T := tab) 1 rfl rfl rfl rfl ?_ | refine LK.askW rfl ?_ | refine LK.st1 0 rfl rfl rfl rfl rfl rfl rfl ?_ | refine LK.st1 1 rfl rfl rfl rfl rfl rfl rfl ?_ | refine LK.stA 0 rfl rfl rfl rfl rfl rfl rfl rfl ?_ | refine LK.stA 1 rfl rfl rfl rfl rfl rfl rfl rfl ?_ | refine CK.any false Qk ?_ | fail))
end Go.Proofs.Ytkdbijfkcjcjmaa
