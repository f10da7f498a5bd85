/-
  Walks: package refute: require, proper, negate, some, one, denied.
  Conditions: those of each theorem.
-/
import Derived.Test.YthjllgabmgkocaaGreatRG3
namespace Go.Proofs.YthjllgabmgkocaaGreat
open Go.E2 Go.Wage
abbrev failV : Value := .iface 86 (.agg #[])
abbrev FnR (c : Ctx) (f : FuncId) (args : List AV) (L : List Ent) (b : Bool) : Prop := FnX Tryz.prog c f args L failV (fun a L' => (a = .tup [] ∧ b = true) ∧ L' = L) fun L' => L' = L ∧ b = false
theorem uReq_ok {c : Ctx} {L : List Ent} (b : Bool) : FnR c 42 [B b] L b := by
  refine fnX_run (T := tab) [] Tryz.func42 rfl Tryz.ntmps42 rfl Tryz.results42 (fun c1 hw0 hle0 => ?_)
  repeat' ((conv => whnf) <;> (first | refine XK.panic rfl (fun w => by kernel_rfl) ?_ | refine LK.gr (Gr.mkIface ⟨_, Tryz.underlying86⟩ rfl rfl) ?_ | refine Must.mk (fun h => h) ?_ | refine Must.mk (fun _ => rfl) ?_ | refine Must.mk Qw ?_ | refine MW.ok Qw ?_ | intro _ | exact Fin.pure rfl | refine Br.tt ?_ | refine Br.ff ?_ | (refine Br.mk (fun h => ?_) (fun h => ?_) <;> (try simp only [sh] at h) <;> (try first | (exfalso; omega) | exact absurd trivial h | (exfalso; simp at h; done))) | refine Ix.at ‹_› Qw ?_ | refine Ix.mapN Qw ?_ | refine Ix.mapN1 Qw ?_ | refine Ix.map Qw ?_ | refine Ix.at Qi Qw ?_ | refine lB (T := tab) ?_ | refine lBA (T := tab) ?_ | refine rA (T := tab) ?_ | refine r1 (T := tab) ?_ | refine LK.askW rfl ?_ | refine s1 ?_ | refine sA ?_ | refine CK.any false Qk ?_ | refine XK.nil ?_ | refine CK.regX [] ?_ | refine XK.defer rfl ?_ | refine XK.deferF rfl rfl ?_ | refine ⟨rfl, PanX.of _ Qs ⟨rfl, ?_⟩⟩ | exact True.intro | fail))
  · exact h
  · conv => whnf
    exact .out _ (by exact Qs) ⟨⟨rfl, h⟩, rfl⟩
theorem uProper_ok {c : Ctx} {L : List Ent} {i g : Nat} {p : Pl} {bd : Int} {log : List Sg} {cur : Int} (hL : L[i]? = some (Ck g p bd log cur)) (l : Lt) (_hd : p.duties.length ≤ 1000) (_hw : p.workers.length ≤ 1000) :
    FnL Tryz.prog c 43 [pt g, ltav l] L fun r L' => r = B (properB p l) ∧ L' = L := by
  refine FnL.same hL fun R => ?_
  have hld : (p.duties.map duav).length = p.duties.length := by simp
  have hlw : (p.workers.map wkav).length = p.workers.length := by simp
  refine fnL_run (T := tab) Tryz.func43 rfl Tryz.ntmps43 rfl Tryz.results43 (fun _ hw0 => ?_)
  repeat' ((conv => whnf) <;> (first | refine Must.mk (fun h => h) ?_ | refine Must.mk (fun _ => rfl) ?_ | refine Must.mk Qw ?_ | refine MW.ok Qw ?_ | intro _ | exact Fin.pure rfl | refine Br.tt ?_ | refine Br.ff ?_ | (refine Br.mk (fun h => ?_) (fun h => ?_) <;> (try simp only [sh] at h) <;> (try first | (exfalso; omega) | exact absurd trivial h | (exfalso; simp at h; done))) | refine Ix.at ‹_› Qw ?_ | refine Ix.mapN Qw ?_ | refine Ix.mapN1 Qw ?_ | refine Ix.map Qw ?_ | refine Ix.at Qi Qw ?_ | refine lB (T := tab) ?_ | refine lBA (T := tab) ?_ | refine rA (T := tab) ?_ | refine r1 (T := tab) ?_ | refine LK.askW rfl ?_ | refine s1 ?_ | refine sA ?_ | refine CK.any false Qk ?_ | fail))
  conv => whnf
  refine .out _ (by exact Qs) ⟨congrArg B ?_, rfl⟩
  rw [Bool.eq_iff_iff, properB_iff]
  simp only [Bool.and_eq_true, decide_eq_true_eq]
  omega
theorem uNegate_ok (l : Lt) : FnA Tryz.prog 72 [ltav l] (ltav (negL l)) := by
  refine fn_run (T := tab) Tryz.func72 rfl Tryz.ntmps72 rfl Tryz.results72 (fun _ => ?_)
  repeat' ((conv => whnf) <;> (first | refine Must.mk (fun h => h) ?_ | refine Must.mk (fun _ => rfl) ?_ | refine Must.mk Qw ?_ | refine MW.ok Qw ?_ | intro _ | exact Fin.pure rfl | refine Fin.pure ?_ | refine Br.tt ?_ | refine Br.ff ?_ | (refine Br.mk (fun h => ?_) (fun h => ?_) <;> (try simp only [sh] at h) <;> (try first | (exfalso; omega) | exact absurd trivial h | (exfalso; simp at h; done))) | refine Ix.at ‹_› Qw ?_ | refine Ix.mapN Qw ?_ | refine Ix.mapN1 Qw ?_ | refine Ix.map Qw ?_ | refine Ix.at Qi Qw ?_ | refine lB (T := tab) ?_ | refine lBA (T := tab) ?_ | refine rA (T := tab) ?_ | refine r1 (T := tab) ?_ | refine LK.askW rfl ?_ | refine s1 ?_ | refine sA ?_ | refine CK.any false Qk ?_ | fail))
theorem eqLt (x y : Lt) : (decide (x.du = y.du) && (decide (x.wk = y.wk) && ((x.is == y.is) && true))) = decide (x = y) := by
  rw [Bool.eq_iff_iff]
  simp only [Bool.and_eq_true, decide_eq_true_eq, beq_iff_eq, and_true]
  constructor
  · intro h; cases x; cases y; simp_all
  · rintro rfl; simp
theorem all_succ {n : Nat} {f : Nat → Bool} (h : (List.range n).all f = true) (hf : f n = true) : (List.range (n + 1)).all f = true := by
  rw [List.range_succ, List.all_append, h, List.all_cons, hf]; rfl
theorem all_fail {n k : Nat} {f : Nat → Bool} (hk : k < n) (hf : f k = false) : (List.range n).all f = false :=
  List.all_eq_false.2 ⟨k, List.mem_range.2 hk, by rw [hf]; simp⟩
set_option maxRecDepth 4000 in
set_option maxHeartbeats 4000000 in
theorem uSome_ok {c : Ctx} {L : List Ent} {i g : Nat} {p : Pl} {bd : Int} {log : List Sg} {cur : Int} (hL : L[i]? = some (Ck g p bd log cur)) (s : Sg) (hd : p.duties.length ≤ 1000) (hw : p.workers.length ≤ 1000) (_hc : s.cl.length ≤ 1000000) (_hf : s.frm.length ≤ 1000000) :
    FnR c 37 [pt g, sgav s] L (someB p s) := by
  refine FnX.same hL fun R => ?_
  have hld : (p.duties.map duav).length = p.duties.length := by simp
  have hlw : (p.workers.map wkav).length = p.workers.length := by simp
  have hlc : (s.cl.map ltav).length = s.cl.length := by simp
  have hlf : (s.frm.map I).length = s.frm.length := by simp
  refine fnX_run (T := tab) [42] Tryz.func37 rfl Tryz.ntmps37 rfl Tryz.results37 (fun c1 hw0 hle0 => ?_)
  repeat' ((conv => whnf) <;> (first | refine CK.anyX [0, 1, 2, 3, 4, 5, 6, 7, 8, 9, 10, 11, 12, 13, 14, 15, 16, 17, 18, 19, 20, 21, 22, 23, 24, 25, 26] [27] _ (List.Sublist.refl _) Qk ?_ | refine Must.mk (fun h => h) ?_ | refine Must.mk (fun _ => rfl) ?_ | refine Must.mk Qw ?_ | refine MW.ok Qw ?_ | intro _ | exact Fin.pure rfl | refine Br.tt ?_ | refine Br.ff ?_ | (refine Br.mk (fun h => ?_) (fun h => ?_) <;> (try simp only [sh] at h) <;> (try first | (exfalso; omega) | exact absurd trivial h | (exfalso; simp at h; done))) | refine Ix.at ‹_› Qw ?_ | refine Ix.mapN Qw ?_ | refine Ix.mapN1 Qw ?_ | refine Ix.map Qw ?_ | refine Ix.at Qi Qw ?_ | (refine XK.call ent42 (uReq_ok _) rfl rfl Ql (fun _ _ hcall => ?_) (fun _ hpan => ?_) <;> (first | obtain ⟨⟨rfl, hb⟩, rfl⟩ := hcall | obtain ⟨rfl, hb⟩ := hpan)) | (refine KxX.call ent42 (uReq_ok _) rfl rfl rfl Ql (fun _ _ hcall => by obtain ⟨⟨rfl, hb⟩, rfl⟩ := hcall; exact Qs) (fun _ _ hcall => ?_) (fun _ hpan => ?_) <;> (first | obtain ⟨⟨rfl, hb⟩, rfl⟩ := hcall | obtain ⟨rfl, hb⟩ := hpan)) | refine lB (T := tab) ?_ | refine lBA (T := tab) ?_ | refine rA (T := tab) ?_ | refine r1 (T := tab) ?_ | refine LK.askW rfl ?_ | refine s1 ?_ | refine sA ?_ | refine Kx.nil ?_ | refine Kx.stp (T := tab) rfl rfl Qs ?_ | refine kA (T := tab) ?_ | (refine Kx.frzR 0 rfl ?_ <;> refine kF (T := tab) ?_) | refine kP (T := tab) ?_ | refine k1 (T := tab) ?_ | refine kB (T := tab) ?_ | refine kL (T := tab) ?_ | refine CK.any false Qk ?_ | refine XK.nil ?_ | refine CK.regX [42] ?_ | refine XK.defer rfl ?_ | refine XK.deferF rfl rfl ?_ | refine ⟨rfl, PanX.of _ Qs ⟨rfl, ?_⟩⟩ | refine KxX.nil ?_ | refine KxX.stp (T := tab) rfl rfl Qs ?_ | exact True.intro | fail))
  rotate_left
  · rw [List.length_map, List.length_map, List.length_map, List.length_map] at hb
    unfold someB
    rw [show (decide (s.frm.length = 0) && decide (0 < p.duties.length) && decide (s.cl.length = p.workers.length)) = false by
      simp only [Bool.and_eq_false_iff, decide_eq_false_iff_not] at hb ⊢
      omega, Bool.false_and]
  simp only [Bool.and_eq_true, decide_eq_true_eq] at hb
  have hS : someB p s = (List.range s.cl.length).all (rowB s.cl) := by
    unfold someB
    rw [show (decide (s.frm.length = 0) && decide (0 < p.duties.length) && decide (s.cl.length = p.workers.length)) = true by
      simp only [Bool.and_eq_true, decide_eq_true_eq]
      omega, Bool.true_and]
  repeat' ((conv => whnf) <;> (first | refine Must.mk (fun h => h) ?_ | refine Must.mk (fun _ => rfl) ?_ | refine Must.mk Qw ?_ | refine MW.ok Qw ?_ | intro _ | exact Fin.pure rfl | refine Br.tt ?_ | refine Br.ff ?_ | (refine Br.mk (fun h => ?_) (fun h => ?_) <;> (try simp only [sh] at h) <;> (try first | (exfalso; omega) | exact absurd trivial h | (exfalso; simp at h; done))) | refine Ix.at ‹_› Qw ?_ | refine Ix.mapN Qw ?_ | refine Ix.mapN1 Qw ?_ | refine Ix.map Qw ?_ | refine Ix.at Qi Qw ?_ | refine lB (T := tab) ?_ | refine lBA (T := tab) ?_ | refine rA (T := tab) ?_ | refine r1 (T := tab) ?_ | refine LK.askW rfl ?_ | refine s1 ?_ | refine sA ?_ | refine Kx.nil ?_ | refine Kx.stp (T := tab) rfl rfl Qs ?_ | refine kA (T := tab) ?_ | (refine Kx.frzR 0 rfl ?_ <;> refine kF (T := tab) ?_) | refine kP (T := tab) ?_ | refine k1 (T := tab) ?_ | refine kB (T := tab) ?_ | refine kL (T := tab) ?_ | refine CK.any false Qk ?_ | refine XK.nil ?_ | refine CK.regX [42] ?_ | refine XK.defer rfl ?_ | refine XK.deferF rfl rfl ?_ | refine ⟨rfl, PanX.of _ Qs ⟨rfl, ?_⟩⟩ | refine KxX.nil ?_ | refine KxX.stp (T := tab) rfl rfl Qs ?_ | exact True.intro | fail))
  (conv => whnf); refine CK.loopX [42] [4, 5, 37, 38, 39, 40, 41, 42, 43, 44, 45, 46, 47, 48, 49, 50, 51, 52] (σ := Nat) (fun k => k ≤ s.cl.length ∧ (List.range k).all (rowB s.cl) = true) (fun k => [(37, I k)]) (fun _ => []) _ (fun k => s.cl.length - k) 0 ⟨Nat.zero_le _, rfl⟩ Qy (List.Sublist.refl _) ?_
  conv => whnf
  rintro k ⟨i1, i2⟩
  by_cases hk : k < s.cl.length
  · repeat' ((conv => whnf) <;> (first | refine CK.anyX [0, 1, 2, 3, 4, 5, 6, 7, 8] [9] _ (List.Sublist.refl _) Qk ?_ | refine Must.mk (fun h => h) ?_ | refine Must.mk (fun _ => rfl) ?_ | refine Must.mk Qw ?_ | refine MW.ok Qw ?_ | intro _ | exact Fin.pure rfl | refine Br.tt ?_ | refine Br.ff ?_ | (refine Br.mk (fun h => ?_) (fun h => ?_) <;> (try simp only [sh] at h) <;> (try first | (exfalso; omega) | exact absurd trivial h | (exfalso; simp at h; done))) | refine Ix.at ‹_› Qw ?_ | refine Ix.mapN Qw ?_ | refine Ix.mapN1 Qw ?_ | refine Ix.map Qw ?_ | refine Ix.at Qi Qw ?_ | (refine XK.call ent42 (uReq_ok _) rfl rfl Ql (fun _ _ hcall => ?_) (fun _ hpan => ?_) <;> (first | obtain ⟨⟨rfl, hb2⟩, rfl⟩ := hcall | obtain ⟨rfl, hb2⟩ := hpan)) | (refine KxX.call ent42 (uReq_ok _) rfl rfl rfl Ql (fun _ _ hcall => by obtain ⟨⟨rfl, hb2⟩, rfl⟩ := hcall; exact Qs) (fun _ _ hcall => ?_) (fun _ hpan => ?_) <;> (first | obtain ⟨⟨rfl, hb2⟩, rfl⟩ := hcall | obtain ⟨rfl, hb2⟩ := hpan)) | refine Ask.of (Gr.eqlS rfl rfl rfl rfl (eqs45 _ _ _ _ _ _)) ?_ | refine Ask.of (Gr.neqS rfl rfl rfl rfl (eqs45 _ _ _ _ _ _)) ?_ | refine Ask.of (Gr.eqlS rfl rfl rfl rfl (eqs158 _ _ _ _)) ?_ | refine Ask.of (Gr.neqS rfl rfl rfl rfl (eqs158 _ _ _ _)) ?_ | refine Ask.of (Gr.eqlS rfl rfl rfl rfl (eqs28 _ _ _ _)) ?_ | refine Ask.of (Gr.neqS rfl rfl rfl rfl (eqs28 _ _ _ _)) ?_ | refine Ask.of (Gr.eqlS rfl rfl rfl rfl (eqs104 _ _ _ _ _ _ _ _)) ?_ | refine Ask.of (Gr.neqS rfl rfl rfl rfl (eqs104 _ _ _ _ _ _ _ _)) ?_ | refine lB (T := tab) ?_ | refine lBA (T := tab) ?_ | refine rA (T := tab) ?_ | refine r1 (T := tab) ?_ | refine LK.askW rfl ?_ | refine s1 ?_ | refine sA ?_ | refine Kx.nil ?_ | refine Kx.stp (T := tab) rfl rfl Qs ?_ | refine kA (T := tab) ?_ | (refine Kx.frzR 0 rfl ?_ <;> refine kF (T := tab) ?_) | refine kP (T := tab) ?_ | refine k1 (T := tab) ?_ | refine kB (T := tab) ?_ | refine kL (T := tab) ?_ | refine CK.any false Qk ?_ | refine XK.nil ?_ | refine CK.regX [42] ?_ | refine XK.defer rfl ?_ | refine XK.deferF rfl rfl ?_ | refine ⟨rfl, PanX.of _ Qs ⟨rfl, ?_⟩⟩ | refine KxX.nil ?_ | refine KxX.stp (T := tab) rfl rfl Qs ?_ | exact True.intro | fail))
    · (conv => whnf); (refine Nxt.of (k + 1) [4, 5, 37, 38, 39, 40, 41, 42, 43, 44, 45, 46, 47, 48, 49, 50, 51, 52] Qr Qr Qr ?_ ?_ Qy ?_ <;> (try dsimp only) <;> (try omega))
      · refine ⟨hk, all_succ i2 ?_⟩
        unfold rowB
        rw [← eqLt]
        exact hb2
      · exact Qs
    · rw [hS]
      refine all_fail hk ?_
      unfold rowB
      rw [← eqLt]
      exact hb2
  · obtain rfl : k = s.cl.length := by omega
    repeat' ((conv => whnf) <;> (first | refine Must.mk (fun h => h) ?_ | refine Must.mk (fun _ => rfl) ?_ | refine Must.mk Qw ?_ | refine MW.ok Qw ?_ | intro _ | exact Fin.pure rfl | refine Br.tt ?_ | refine Br.ff ?_ | (refine Br.mk (fun h => ?_) (fun h => ?_) <;> (try simp only [sh] at h) <;> (try first | (exfalso; omega) | exact absurd trivial h | (exfalso; simp at h; done))) | refine Ix.at ‹_› Qw ?_ | refine Ix.mapN Qw ?_ | refine Ix.mapN1 Qw ?_ | refine Ix.map Qw ?_ | refine Ix.at Qi Qw ?_ | refine lB (T := tab) ?_ | refine lBA (T := tab) ?_ | refine rA (T := tab) ?_ | refine r1 (T := tab) ?_ | refine LK.askW rfl ?_ | refine s1 ?_ | refine sA ?_ | refine Kx.nil ?_ | refine Kx.stp (T := tab) rfl rfl Qs ?_ | refine kA (T := tab) ?_ | (refine Kx.frzR 0 rfl ?_ <;> refine kF (T := tab) ?_) | refine kP (T := tab) ?_ | refine k1 (T := tab) ?_ | refine kB (T := tab) ?_ | refine kL (T := tab) ?_ | refine CK.any false Qk ?_ | refine XK.nil ?_ | refine CK.regX [42] ?_ | refine XK.defer rfl ?_ | refine XK.deferF rfl rfl ?_ | refine ⟨rfl, PanX.of _ Qs ⟨rfl, ?_⟩⟩ | refine KxX.nil ?_ | refine KxX.stp (T := tab) rfl rfl Qs ?_ | exact True.intro | fail))
    conv => whnf
    exact .out _ (by exact Qs) ⟨⟨rfl, hS.trans i2⟩, rfl⟩
set_option maxRecDepth 4000 in
set_option maxHeartbeats 4000000 in
theorem uOne_ok {c : Ctx} {L : List Ent} (q : AV) (s : Sg) (_hc : s.cl.length ≤ 1000000) (_hf : s.frm.length ≤ 1000000) : FnR c 38 [q, sgav s] L (oneB s) := by
  have hlc : (s.cl.map ltav).length = s.cl.length := by simp
  have hlf : (s.frm.map I).length = s.frm.length := by simp
  refine fnX_run (T := tab) [42] Tryz.func38 rfl Tryz.ntmps38 rfl Tryz.results38 (fun c1 hw0 hle0 => ?_)
  repeat' ((conv => whnf) <;> (first | refine Must.mk (fun h => h) ?_ | refine Must.mk (fun _ => rfl) ?_ | refine Must.mk Qw ?_ | refine MW.ok Qw ?_ | intro _ | exact Fin.pure rfl | refine Br.tt ?_ | refine Br.ff ?_ | (refine Br.mk (fun h => ?_) (fun h => ?_) <;> (try simp only [sh] at h) <;> (try first | (exfalso; omega) | exact absurd trivial h | (exfalso; simp at h; done))) | refine Ix.at ‹_› Qw ?_ | refine Ix.mapN Qw ?_ | refine Ix.mapN1 Qw ?_ | refine Ix.map Qw ?_ | refine Ix.at Qi Qw ?_ | (refine XK.call ent42 (uReq_ok _) rfl rfl Ql (fun _ _ hcall => ?_) (fun _ hpan => ?_) <;> (first | obtain ⟨⟨rfl, hb⟩, rfl⟩ := hcall | obtain ⟨rfl, hb⟩ := hpan)) | (refine KxX.call ent42 (uReq_ok _) rfl rfl rfl Ql (fun _ _ hcall => by obtain ⟨⟨rfl, hb⟩, rfl⟩ := hcall; exact Qs) (fun _ _ hcall => ?_) (fun _ hpan => ?_) <;> (first | obtain ⟨⟨rfl, hb⟩, rfl⟩ := hcall | obtain ⟨rfl, hb⟩ := hpan)) | refine lB (T := tab) ?_ | refine lBA (T := tab) ?_ | refine rA (T := tab) ?_ | refine r1 (T := tab) ?_ | refine LK.askW rfl ?_ | refine s1 ?_ | refine sA ?_ | refine Kx.nil ?_ | refine Kx.stp (T := tab) rfl rfl Qs ?_ | refine kA (T := tab) ?_ | (refine Kx.frzR 0 rfl ?_ <;> refine kF (T := tab) ?_) | refine kP (T := tab) ?_ | refine k1 (T := tab) ?_ | refine kB (T := tab) ?_ | refine kL (T := tab) ?_ | refine CK.any false Qk ?_ | refine XK.nil ?_ | refine CK.regX [42] ?_ | refine XK.defer rfl ?_ | refine XK.deferF rfl rfl ?_ | refine ⟨rfl, PanX.of _ Qs ⟨rfl, ?_⟩⟩ | refine KxX.nil ?_ | refine KxX.stp (T := tab) rfl rfl Qs ?_ | exact True.intro | fail))
  rotate_left
  · rw [List.length_map, List.length_map] at hb
    unfold oneB
    rw [show (decide (s.frm.length = 0) && decide (s.cl.length = 2)) = false by
      simp only [Bool.and_eq_false_iff, decide_eq_false_iff_not] at hb ⊢
      omega, Bool.false_and]
  simp only [Bool.and_eq_true, decide_eq_true_eq] at hb
  have hS : oneB s = (!(s.cl.getD 0 default).is && !(s.cl.getD 1 default).is && decide ((s.cl.getD 0 default).du = (s.cl.getD 1 default).du) && decide ((s.cl.getD 0 default).wk < (s.cl.getD 1 default).wk)) := by
    unfold oneB
    rw [show (decide (s.frm.length = 0) && decide (s.cl.length = 2)) = true by
      simp only [Bool.and_eq_true, decide_eq_true_eq]
      omega, Bool.true_and]
  repeat' ((conv => whnf) <;> (first | (refine CK.any2 (T := tab) [0, 1, 2, 3, 4, 5, 6, 7] 8 9 [10, 11] _ (List.Sublist.refl _) Qk rfl rfl rfl rfl rfl rfl rfl ?_) | refine Must.mk (fun h => h) ?_ | refine Must.mk (fun _ => rfl) ?_ | refine Must.mk Qw ?_ | refine MW.ok Qw ?_ | intro _ | exact Fin.pure rfl | refine Br.tt ?_ | refine Br.ff ?_ | (refine Br.mk (fun h => ?_) (fun h => ?_) <;> (try simp only [sh] at h) <;> (try first | (exfalso; omega) | exact absurd trivial h | (exfalso; simp at h; done))) | refine Ix.at ‹_› Qw ?_ | refine Ix.mapN Qw ?_ | refine Ix.mapN1 Qw ?_ | refine Ix.map Qw ?_ | refine Ix.at Qi Qw ?_ | (refine XK.call ent42 (uReq_ok _) rfl rfl Ql (fun _ _ hcall => ?_) (fun _ hpan => ?_) <;> (first | obtain ⟨⟨rfl, hb2⟩, rfl⟩ := hcall | obtain ⟨rfl, hb2⟩ := hpan)) | (refine KxX.call ent42 (uReq_ok _) rfl rfl rfl Ql (fun _ _ hcall => by obtain ⟨⟨rfl, hb2⟩, rfl⟩ := hcall; exact Qs) (fun _ _ hcall => ?_) (fun _ hpan => ?_) <;> (first | obtain ⟨⟨rfl, hb2⟩, rfl⟩ := hcall | obtain ⟨rfl, hb2⟩ := hpan)) | refine lB (T := tab) ?_ | refine lBA (T := tab) ?_ | refine rA (T := tab) ?_ | refine r1 (T := tab) ?_ | refine LK.askW rfl ?_ | refine s1 ?_ | refine sA ?_ | refine Kx.nil ?_ | refine Kx.stp (T := tab) rfl rfl Qs ?_ | refine kA (T := tab) ?_ | (refine Kx.frzR 0 rfl ?_ <;> refine kF (T := tab) ?_) | refine kP (T := tab) ?_ | refine k1 (T := tab) ?_ | refine kB (T := tab) ?_ | refine kL (T := tab) ?_ | refine CK.any false Qk ?_ | refine XK.nil ?_ | refine CK.regX [42] ?_ | refine XK.defer rfl ?_ | refine XK.deferF rfl rfl ?_ | refine ⟨rfl, PanX.of _ Qs ⟨rfl, ?_⟩⟩ | refine KxX.nil ?_ | refine KxX.stp (T := tab) rfl rfl Qs ?_ | exact True.intro | fail))
  · conv => whnf
    exact .out _ (by exact Qs) ⟨⟨rfl, hS.trans hb2⟩, rfl⟩
  · rw [hS]; exact hb2
theorem denL_none {l : Lt} {cl : List Lt} {ro : List Int} (h : (!l.is && decide (ro.getD l.du.toNat default < 0)) = false) : denL (l :: cl) ro = none := by rw [denL, if_neg (by rw [h]; exact Bool.false_ne_true)]
theorem denL_some {l : Lt} {cl : List Lt} {ro : List Int} (h : (!l.is && decide (ro.getD l.du.toNat default < 0)) = true) : denL (l :: cl) ro = denL cl (ro.set l.du.toNat l.wk) := by rw [denL, if_pos h]
theorem denL_len : ∀ {cl : List Lt} {ro r : List Int}, denL cl ro = some r → r.length = ro.length
  | [], ro, r, h => by rw [denL] at h; injection h with h; rw [h]
  | l :: cl, ro, r, h => by
    rw [denL] at h
    split at h
    · rw [denL_len h, List.length_set]
    · cases h
theorem denS_len {p : Pl} {s : Sg} {r : List Int} (h : denS p s = some r) : r.length = p.duties.length := by
  unfold denS at h
  split at h
  · rw [denL_len h, List.length_replicate]
  · cases h
abbrev FnDen (c : Ctx) (L : List Ent) (q : AV) (p : Pl) (s : Sg) : Prop := FnX Tryz.prog c 71 [q, sgav s] L failV (fun a L' => (∃ ro, denS p s = some ro ∧ a = .sl 1 (ro.map I)) ∧ L' = L) fun L' => L' = L ∧ denS p s = none
set_option maxRecDepth 4000 in
set_option maxHeartbeats 8000000 in
theorem uDenied_ok {c : Ctx} {L : List Ent} {i g : Nat} {p : Pl} {bd : Int} {log : List Sg} {cur : Int} (hL : L[i]? = some (Ck g p bd log cur)) (s : Sg) (hd : p.duties.length ≤ 1000) (hc : s.cl.length ≤ 1000000) (_hf : s.frm.length ≤ 1000000) (hp : s.cl.all (properB p) = true) :
    FnDen c L (pt g) p s := by
  refine FnX.same hL fun R => ?_
  have hld : (p.duties.map duav).length = p.duties.length := by simp
  have hlc : (s.cl.map ltav).length = s.cl.length := by simp
  have hlf : (s.frm.map I).length = s.frm.length := by simp
  refine fnX_run (T := tab) [42] Tryz.func71 rfl Tryz.ntmps71 rfl Tryz.results71 (fun c1 hw0 hle0 => ?_)
  repeat' ((conv => whnf) <;> (first | (refine LK.eff (Eff.mkS (T := tab) (N := p.duties.length) (z := .int .i64 0) rfl rfl rfl rfl (congrArg (fun q : Nat => some (I (q : Int))) hld) (by omega)) ?_ <;> rintro _ _ ⟨A, B', C, rfl, rfl⟩) | refine Must.mk (fun h => h) ?_ | refine Must.mk (fun _ => rfl) ?_ | refine Must.mk Qw ?_ | refine MW.ok Qw ?_ | intro _ | exact Fin.pure rfl | refine Br.tt ?_ | refine Br.ff ?_ | (refine Br.mk (fun h => ?_) (fun h => ?_) <;> (try simp only [sh] at h) <;> (try first | (exfalso; omega) | exact absurd trivial h | (exfalso; simp at h; done))) | refine Ix.at ‹_› Qw ?_ | refine Ix.mapN Qw ?_ | refine Ix.mapN1 Qw ?_ | refine Ix.map Qw ?_ | refine Ix.at Qi Qw ?_ | (refine XK.call ent42 (uReq_ok _) rfl rfl Ql (fun _ _ hcall => ?_) (fun _ hpan => ?_) <;> (first | obtain ⟨⟨rfl, hb⟩, rfl⟩ := hcall | obtain ⟨rfl, hb⟩ := hpan)) | (refine KxX.call ent42 (uReq_ok _) rfl rfl rfl Ql (fun _ _ hcall => by obtain ⟨⟨rfl, hb⟩, rfl⟩ := hcall; exact Qs) (fun _ _ hcall => ?_) (fun _ hpan => ?_) <;> (first | obtain ⟨⟨rfl, hb⟩, rfl⟩ := hcall | obtain ⟨rfl, hb⟩ := hpan)) | refine lB (T := tab) ?_ | refine lBA (T := tab) ?_ | refine rA (T := tab) ?_ | refine r1 (T := tab) ?_ | refine LK.askW rfl ?_ | refine s1 ?_ | refine sA ?_ | refine Kx.nil ?_ | refine Kx.stp (T := tab) rfl rfl Qs ?_ | refine kA (T := tab) ?_ | (refine Kx.frzR 0 rfl ?_ <;> refine kF (T := tab) ?_) | refine kP (T := tab) ?_ | refine k1 (T := tab) ?_ | refine kB (T := tab) ?_ | refine kL (T := tab) ?_ | refine CK.any false Qk ?_ | refine XK.nil ?_ | refine CK.regX [42] ?_ | refine XK.defer rfl ?_ | refine XK.deferF rfl rfl ?_ | refine ⟨rfl, PanX.of _ Qs ⟨rfl, ?_⟩⟩ | refine KxX.nil ?_ | refine KxX.stp (T := tab) rfl rfl Qs ?_ | exact True.intro | fail))
  rotate_left
  · rw [List.length_map, List.length_map] at hb
    unfold denS
    rw [if_neg]
    simp only [Bool.and_eq_false_iff, decide_eq_false_iff_not, Bool.and_eq_true, decide_eq_true_eq] at hb ⊢
    omega
  simp only [Bool.and_eq_true, decide_eq_true_eq] at hb
  have hS : denS p s = denL s.cl (List.replicate p.duties.length (-1)) := by
    unfold denS
    rw [if_pos]
    simp only [Bool.and_eq_true, decide_eq_true_eq]
    omega
  have hrep : (List.replicate p.duties.length (AV.v (.int .i64 0))).length = p.duties.length := List.length_replicate
  repeat' ((conv => whnf) <;> (first | refine nR (T := tab) ?_ | refine Must.mk (fun h => h) ?_ | refine Must.mk (fun _ => rfl) ?_ | refine Must.mk Qw ?_ | refine MW.ok Qw ?_ | intro _ | exact Fin.pure rfl | refine Br.tt ?_ | refine Br.ff ?_ | (refine Br.mk (fun h => ?_) (fun h => ?_) <;> (try simp only [sh] at h) <;> (try first | (exfalso; omega) | exact absurd trivial h | (exfalso; simp at h; done))) | refine Ix.at ‹_› Qw ?_ | refine Ix.mapN Qw ?_ | refine Ix.mapN1 Qw ?_ | refine Ix.map Qw ?_ | refine Ix.at Qi Qw ?_ | refine lB (T := tab) ?_ | refine lBA (T := tab) ?_ | refine rA (T := tab) ?_ | refine r1 (T := tab) ?_ | refine lM (T := tab) ?_ | refine lM0 (T := tab) ?_ | refine lMA (T := tab) ?_ | refine sM ?_ | refine LK.askW rfl ?_ | refine s1 ?_ | refine sA ?_ | refine Kx.nil ?_ | refine Kx.stp (T := tab) rfl rfl Qs ?_ | refine kA (T := tab) ?_ | (refine Kx.frzR 0 rfl ?_ <;> refine kF (T := tab) ?_) | refine kP (T := tab) ?_ | refine k1 (T := tab) ?_ | refine kB (T := tab) ?_ | refine kL (T := tab) ?_ | refine CK.any false Qk ?_ | refine XK.nil ?_ | refine CK.regX [42] ?_ | refine XK.defer rfl ?_ | refine XK.deferF rfl rfl ?_ | refine ⟨rfl, PanX.of _ Qs ⟨rfl, ?_⟩⟩ | refine KxX.nil ?_ | refine KxX.stp (T := tab) rfl rfl Qs ?_ | exact True.intro | fail))
  (conv => whnf); refine CK.loopX [42] [6, 30, 31, 32, 33, 34, 35, 36] (σ := Nat × List Int) (fun s => s.1 ≤ p.duties.length ∧ s.2 = List.replicate s.1 (-1) ++ List.replicate (p.duties.length - s.1) 0) (fun ⟨k, _⟩ => [(30, I k)]) (fun ⟨_, rs⟩ => [.row (.slice A B' C) 3 1 0 false (rs.map I)]) _ (fun s => p.duties.length - s.1) (0, List.replicate p.duties.length 0) ⟨Nat.zero_le _, by simp⟩ Qy (by dsimp only; rw [List.map_replicate]; exact Qs) ?_
  conv => whnf
  rintro ⟨k, rs⟩ ⟨i1, i2⟩
  simp only at i1 i2
  have hrl : rs.length = p.duties.length := by rw [i2]; simp; omega
  have hrl2 : (rs.map I).length = p.duties.length := by simp [hrl]
  by_cases hk : k < p.duties.length
  · have hset : rs.set k (-1) = List.replicate (k + 1) (-1) ++ List.replicate (p.duties.length - (k + 1)) 0 := by
      have e5 : p.duties.length - k = p.duties.length - (k + 1) + 1 := by omega
      rw [i2, List.set_append_right _ _ (by simp), e5, List.replicate_succ, List.replicate_succ']
      simp
    have hst : (rs.map I).set (k : Int).toNat ((I (rs.getD (k : Int).toNat default)).setCell 0 (I (-1))) = (rs.set k (-1)).map I := by
      rw [List.map_set, Int.toNat_natCast]
      rfl
    repeat' ((conv => whnf) <;> (first | refine LK.stRM (a := (k : Int).toNat) (j := 0) 0 rfl rfl rfl rfl rfl (Nat.zero_le _) (by omega) rfl rfl ?_ | refine Ask.idxR (T := tab) 0 rfl rfl rfl rfl Qw ?_ | refine Must.mk (fun h => h) ?_ | refine Must.mk (fun _ => rfl) ?_ | refine Must.mk Qw ?_ | refine MW.ok Qw ?_ | intro _ | exact Fin.pure rfl | refine Br.tt ?_ | refine Br.ff ?_ | (refine Br.mk (fun h => ?_) (fun h => ?_) <;> (try simp only [sh] at h) <;> (try first | (exfalso; omega) | exact absurd trivial h | (exfalso; simp at h; done))) | refine Ix.at ‹_› Qw ?_ | refine Ix.mapN Qw ?_ | refine Ix.mapN1 Qw ?_ | refine Ix.map Qw ?_ | refine Ix.at Qi Qw ?_ | refine lB (T := tab) ?_ | refine lBA (T := tab) ?_ | refine rA (T := tab) ?_ | refine r1 (T := tab) ?_ | refine lM (T := tab) ?_ | refine lM0 (T := tab) ?_ | refine lMA (T := tab) ?_ | refine sM ?_ | refine LK.askW rfl ?_ | refine s1 ?_ | refine sA ?_ | refine Kx.nil ?_ | refine Kx.stp (T := tab) rfl rfl Qs ?_ | refine kA (T := tab) ?_ | (refine Kx.frzR 0 rfl ?_ <;> refine kF (T := tab) ?_) | refine kP (T := tab) ?_ | refine k1 (T := tab) ?_ | refine kB (T := tab) ?_ | refine kL (T := tab) ?_ | refine CK.any false Qk ?_ | refine XK.nil ?_ | refine CK.regX [42] ?_ | refine XK.defer rfl ?_ | refine XK.deferF rfl rfl ?_ | refine ⟨rfl, PanX.of _ Qs ⟨rfl, ?_⟩⟩ | refine KxX.nil ?_ | refine KxX.stp (T := tab) rfl rfl Qs ?_ | exact True.intro | fail))
    (conv => whnf); (refine Nxt.of ((k + 1, rs.set k (-1))) [6, 30, 31, 32, 33, 34, 35, 36] Qr Qr Qr ?_ ?_ Qy ?_ <;> (try dsimp only) <;> (try omega))
    · exact ⟨hk, hset⟩
    · rw [← hst]
      exact Qs
  · rw [show k = p.duties.length by omega, Nat.sub_self, List.replicate_zero, List.append_nil] at i2
    subst i2
    repeat' ((conv => whnf) <;> (first | refine Must.mk (fun h => h) ?_ | refine Must.mk (fun _ => rfl) ?_ | refine Must.mk Qw ?_ | refine MW.ok Qw ?_ | intro _ | exact Fin.pure rfl | refine Br.tt ?_ | refine Br.ff ?_ | (refine Br.mk (fun h => ?_) (fun h => ?_) <;> (try simp only [sh] at h) <;> (try first | (exfalso; omega) | exact absurd trivial h | (exfalso; simp at h; done))) | refine Ix.at ‹_› Qw ?_ | refine Ix.mapN Qw ?_ | refine Ix.mapN1 Qw ?_ | refine Ix.map Qw ?_ | refine Ix.at Qi Qw ?_ | refine lB (T := tab) ?_ | refine lBA (T := tab) ?_ | refine rA (T := tab) ?_ | refine r1 (T := tab) ?_ | refine lM (T := tab) ?_ | refine lM0 (T := tab) ?_ | refine lMA (T := tab) ?_ | refine sM ?_ | refine LK.askW rfl ?_ | refine s1 ?_ | refine sA ?_ | refine Kx.nil ?_ | refine Kx.stp (T := tab) rfl rfl Qs ?_ | refine kA (T := tab) ?_ | (refine Kx.frzR 0 rfl ?_ <;> refine kF (T := tab) ?_) | refine kP (T := tab) ?_ | refine k1 (T := tab) ?_ | refine kB (T := tab) ?_ | refine kL (T := tab) ?_ | refine CK.any false Qk ?_ | refine XK.nil ?_ | refine CK.regX [42] ?_ | refine XK.defer rfl ?_ | refine XK.deferF rfl rfl ?_ | refine ⟨rfl, PanX.of _ Qs ⟨rfl, ?_⟩⟩ | refine KxX.nil ?_ | refine KxX.stp (T := tab) rfl rfl Qs ?_ | exact True.intro | fail))
    (conv => whnf); refine CK.loopX [42] [8, 40, 41, 42, 43, 44, 45, 46, 47, 48, 49, 50, 51, 52, 53, 54, 55, 56, 57, 58, 59, 60, 61, 62] (σ := Nat × List Int) (fun q => q.1 ≤ s.cl.length ∧ q.2.length = p.duties.length ∧ denL s.cl (List.replicate p.duties.length (-1)) = denL (s.cl.drop q.1) q.2) (fun ⟨k, _⟩ => [(40, I k)]) (fun ⟨_, rs⟩ => [.row (.slice A B' C) 3 1 0 false (rs.map I)]) _ (fun q => s.cl.length - q.1) (0, List.replicate p.duties.length (-1)) ⟨Nat.zero_le _, by simp, rfl⟩ Qy (List.Sublist.refl _) ?_
    conv => whnf
    rintro ⟨j, ro⟩ ⟨j1, j2, j3⟩
    simp only at j1 j2 j3
    have hrl3 : (ro.map I).length = p.duties.length := by simp [j2]
    by_cases hj : j < s.cl.length
    · have hpp := properB_iff.1 (List.all_eq_true.1 hp _ (gAt hj))
      rw [dropG hj] at j3
      have hst : (ro.map I).set (s.cl.getD j default).du.toNat ((I (ro.getD (s.cl.getD j default).du.toNat default)).setCell 0 (I (s.cl.getD j default).wk)) = (ro.set (s.cl.getD j default).du.toNat (s.cl.getD j default).wk).map I := by
        rw [List.map_set]
        rfl
      repeat' ((conv => whnf) <;> (first | refine LK.stRM (a := (s.cl.getD j default).du.toNat) (j := 0) 1 rfl rfl rfl rfl rfl (Nat.zero_le _) (by omega) rfl rfl ?_ | refine Ask.idxR (T := tab) 1 rfl rfl rfl rfl (fun _ => by omega) ?_ | refine Must.mk (fun h => h) ?_ | refine Must.mk (fun _ => rfl) ?_ | refine Must.mk Qw ?_ | refine MW.ok Qw ?_ | intro _ | exact Fin.pure rfl | refine Br.tt ?_ | refine Br.ff ?_ | (refine Br.mk (fun h => ?_) (fun h => ?_) <;> (try simp only [sh] at h) <;> (try first | (exfalso; omega) | exact absurd trivial h | (exfalso; simp at h; done))) | refine Ix.at ‹_› Qw ?_ | refine Ix.mapN Qw ?_ | refine Ix.mapN1 Qw ?_ | refine Ix.map Qw ?_ | refine Ix.at Qi Qw ?_ | (refine XK.call ent42 (uReq_ok _) rfl rfl Ql (fun _ _ hcall => ?_) (fun _ hpan => ?_) <;> (first | obtain ⟨⟨rfl, hb2⟩, rfl⟩ := hcall | obtain ⟨rfl, hb2⟩ := hpan)) | (refine KxX.call ent42 (uReq_ok _) rfl rfl rfl Ql (fun _ _ hcall => by obtain ⟨⟨rfl, hb2⟩, rfl⟩ := hcall; exact Qs) (fun _ _ hcall => ?_) (fun _ hpan => ?_) <;> (first | obtain ⟨⟨rfl, hb2⟩, rfl⟩ := hcall | obtain ⟨rfl, hb2⟩ := hpan)) | refine lB (T := tab) ?_ | refine lBA (T := tab) ?_ | refine rA (T := tab) ?_ | refine r1 (T := tab) ?_ | refine lM (T := tab) ?_ | refine lM0 (T := tab) ?_ | refine lMA (T := tab) ?_ | refine sM ?_ | refine LK.askW rfl ?_ | refine s1 ?_ | refine sA ?_ | refine Kx.nil ?_ | refine Kx.stp (T := tab) rfl rfl Qs ?_ | refine kA (T := tab) ?_ | (refine Kx.frzR 0 rfl ?_ <;> refine kF (T := tab) ?_) | refine kP (T := tab) ?_ | refine k1 (T := tab) ?_ | refine kB (T := tab) ?_ | refine kL (T := tab) ?_ | refine CK.any false Qk ?_ | refine XK.nil ?_ | refine CK.regX [42] ?_ | refine XK.defer rfl ?_ | refine XK.deferF rfl rfl ?_ | refine ⟨rfl, PanX.of _ Qs ⟨rfl, ?_⟩⟩ | refine KxX.nil ?_ | refine KxX.stp (T := tab) rfl rfl Qs ?_ | exact True.intro | fail))
      · rw [denL_some hb2] at j3
        (conv => whnf); (refine Nxt.of ((j + 1, ro.set (s.cl.getD j default).du.toNat (s.cl.getD j default).wk)) [8, 40, 41, 42, 43, 44, 45, 46, 47, 48, 49, 50, 51, 52, 53, 54, 55, 56, 57, 58, 59, 60, 61, 62] Qr Qr Qr ?_ ?_ Qy ?_ <;> (try dsimp only) <;> (try omega))
        · exact ⟨hj, by rw [List.length_set]; exact j2, j3⟩
        · rw [← hst]
          exact Qs
      · rw [hS, j3]
        exact denL_none hb2
    · rw [List.drop_eq_nil_of_le (by omega), denL] at j3
      repeat' ((conv => whnf) <;> (first | refine Must.mk (fun h => h) ?_ | refine Must.mk (fun _ => rfl) ?_ | refine Must.mk Qw ?_ | refine MW.ok Qw ?_ | intro _ | exact Fin.pure rfl | refine Br.tt ?_ | refine Br.ff ?_ | (refine Br.mk (fun h => ?_) (fun h => ?_) <;> (try simp only [sh] at h) <;> (try first | (exfalso; omega) | exact absurd trivial h | (exfalso; simp at h; done))) | refine Ix.at ‹_› Qw ?_ | refine Ix.mapN Qw ?_ | refine Ix.mapN1 Qw ?_ | refine Ix.map Qw ?_ | refine Ix.at Qi Qw ?_ | refine lB (T := tab) ?_ | refine lBA (T := tab) ?_ | refine rA (T := tab) ?_ | refine r1 (T := tab) ?_ | refine lM (T := tab) ?_ | refine lM0 (T := tab) ?_ | refine lMA (T := tab) ?_ | refine sM ?_ | refine LK.askW rfl ?_ | refine s1 ?_ | refine sA ?_ | refine Kx.nil ?_ | refine Kx.stp (T := tab) rfl rfl Qs ?_ | refine kA (T := tab) ?_ | (refine Kx.frzR 0 rfl ?_ <;> refine kF (T := tab) ?_) | refine kP (T := tab) ?_ | refine k1 (T := tab) ?_ | refine kB (T := tab) ?_ | refine kL (T := tab) ?_ | refine CK.any false Qk ?_ | refine XK.nil ?_ | refine CK.regX [42] ?_ | refine XK.defer rfl ?_ | refine XK.deferF rfl rfl ?_ | refine ⟨rfl, PanX.of _ Qs ⟨rfl, ?_⟩⟩ | refine KxX.nil ?_ | refine KxX.stp (T := tab) rfl rfl Qs ?_ | exact True.intro | fail))
      conv => whnf
      refine Fin.frzR 0 rfl ?_
      refine Fin.see (Sb.row 0 rfl) ?_
      exact .out _ (by exact Qs) ⟨⟨ro, hS.trans j3, rfl⟩, rfl⟩
end Go.Proofs.YthjllgabmgkocaaGreat
