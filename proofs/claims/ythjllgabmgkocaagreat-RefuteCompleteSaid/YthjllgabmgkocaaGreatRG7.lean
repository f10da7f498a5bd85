/-
  Walks: package refute: follows, Step, Check.
  Conditions: those of each theorem.
-/
import Derived.Test.YthjllgabmgkocaaGreatRG6
import Derived.Test.YthjllgabmgkocaaGreatE5G
namespace Go.Proofs.YthjllgabmgkocaaGreat
open Go.E2 Go.Wage
def topN (L' : List Ent) : KT := fun ds e _ E => ds = [] ∧ e = .normal ∧ PanX E fun E => E = L'
theorem uFol1_idle {c : Ctx} {L : List Ent} (q : Value) : FnDf Tryz.prog c 36 #[q] .returning L fun u' L' => u' = .returning ∧ L' = L := by
  refine ⟨fun H w hst => ?_⟩
  refine callsD_of_wpS Tryz.func36 rfl fun c₀ cs hu => ?_
  apply wpS_seq
  apply wpS_region
  simp only [go_sem, Tryz.ntmps36]
  simp [wpOpsS, go_sem, recoverD, hu, Exit.thenS]
  apply wpS_seq
  apply wpS_region
  simp [wpOpsS, go_sem, Exit.thenS]
  refine wpS_cond (t := false) (by simp [Act.eval, Array.replicate]) ?_
  simp only [Bool.false_eq_true, if_false]
  refine wpS_of_wp (wp_skip ?_)
  cases c₀
  simp only at hu
  subst hu
  exact ⟨rfl, .returning, rfl, .tuple #[], results_none (by rw [Tryz.results36]) _ _ _, ⟨_, rfl⟩, H, Cells.le_refl _, hst, rfl⟩
theorem uFol1_pan {c : Ctx} {L : List Ent} {g i : Nat} {z : AV} (hL : L[i]? = some (.blk g 4 false [z])) : FnDf Tryz.prog c 36 #[.pointer (some ⟨g, 0, none⟩)] (.panicking (chain1 failV)) L fun u' L' => settle u' = .returning ∧ L' = L.set i (.blk g 4 false [B false]) := by
  refine ⟨fun H w hst => ?_⟩
  refine callsD_of_wpS Tryz.func36 rfl fun c₀ cs hu => ?_
  apply wpS_seq
  apply wpS_region
  simp [wpOpsS, go_sem, recoverD, hu, Tryz.ntmps36, Exit.thenS]
  apply wpS_seq
  apply wpS_region
  simp [wpOpsS, go_sem, Exit.thenS]
  refine wpS_cond (t := true) (by simp [Act.eval, Array.replicate]) ?_
  simp only [if_true]
  have hta : ∀ (c' : Ctx) (n : Cfg) (F : Fr) (E : List Ent) (ty : TypeId), oget n F (.tmp 8) = some (.v failV) → Gr Tryz.prog c' n (.typeAssert (.tmp 8) 20 86 true) ty F E (.tup [.agg [], B true]) := fun c' n F E ty hx => .pure fun H w ρ _ hr d pos aft g => by
    have e := hr.v (by simp [Op.operands]) hx
    have hrun : (Instr.typeAssert failV 20 86 true).run Tryz.prog w = .ok (.tuple #[.agg #[], .bool true]) w := by kernel_rfl
    exact ⟨_, by simp [execOp, e, hrun], .tup (.cons (.agg .nil) (.cons (.v _) .nil))⟩
  refine wpS_of_wp (wpIn_wide.1 (((wpc_out (T := tab) (c := ⟨c.w0, H⟩) (m := 15) (ro := none) (K := topN (L.set i (.blk g 4 false [B false]))) (ds := []) (F := [(0, pt g), (1, .v failV)]) (L := L) ?_).out _ ?_).out H w _ hst.rebase ?_ 0))
  · repeat' ((conv => whnf) <;> (first | refine LK.st1 (T := tab) (i + 1) rfl hL rfl rfl rfl rfl rfl ?_ | refine LK.gr (hta _ _ _ _ _ rfl) ?_ | refine Must.mk (fun h => h) ?_ | refine Must.mk (fun _ => rfl) ?_ | refine Must.mk Qw ?_ | refine MW.ok Qw ?_ | intro _ | exact Fin.pure rfl | refine Br.tt ?_ | refine Br.ff ?_ | (refine Br.mk (fun h => ?_) (fun h => ?_) <;> (try simp only [sh] at h) <;> (try first | (exfalso; omega) | exact absurd trivial h | (exfalso; simp at h; done))) | refine Ix.at ‹_› Qw ?_ | refine Ix.mapN Qw ?_ | refine Ix.mapN1 Qw ?_ | refine Ix.map Qw ?_ | refine Ix.at Qi Qw ?_ | refine lB (T := tab) ?_ | refine lBA (T := tab) ?_ | refine rA (T := tab) ?_ | refine r1 (T := tab) ?_ | refine LK.askW rfl ?_ | refine s1 ?_ | refine sA ?_ | refine CK.any false Qk ?_ | fail))
    conv => whnf
    exact ⟨rfl, rfl, PanX.of _ (List.sublist_cons_self _ _) rfl⟩
  · intro ds e F E hk
    obtain ⟨rfl, rfl, hk⟩ := hk
    obtain ⟨E', h1, rfl⟩ := hk.out
    exact ⟨fun H1 w1 a h1' hF => ⟨hF.ds, _, rfl, .tuple #[], results_none (by rw [Tryz.results36]) _ _ _, ⟨_, rfl⟩, H1, h1'.le, hst.unbase (h1'.sub h1), rfl⟩⟩
  · refine ⟨rfl, by simp, fun s x hs hn => ?_⟩
    match s, hs with
    | 0, hs =>
      obtain rfl := Option.some.inj (hs : some (pt g) = some x)
      exact ⟨_, by simp, .v _⟩
    | 1, hs =>
      obtain rfl := Option.some.inj (hs : some (AV.v failV) = some x)
      exact ⟨_, by simp, .v _⟩
    | s + 2, hs => cases (hs : (none : Option AV) = some x)
theorem inv36 (q : Value) : ∀ w, (invoke (.fn (.func 36) #[q]) #[]).run Tryz.prog w = .ok (.enter 36 #[q]) w := fun w => by simp [invoke, ent36 _ w]
abbrev fnV (f : FuncId) : Value := .func (.func f) #[] #[]
def fm5 : List (Int × Value) := [(1, fnV 37), (2, fnV 38), (3, fnV 39), (4, fnV 40), (5, fnV 41)]
theorem mapFK : MapK Tryz.prog 90 3 88 eI IsI64 := ⟨Tryz.underlying90, key_int Tryz.underlying3, fun x => ⟨x, rfl⟩, fun x y h => by injection h⟩
set_option maxRecDepth 4000 in
set_option maxHeartbeats 16000000 in
theorem uFol_ok {c : Ctx} {L : List Ent} {i g : Nat} {p : Pl} {bd : Int} {log : List Sg} {cur : Int} (hL : L[i]? = some (Ck g p bd log cur)) (k : Nat) (ho : LogOk p log) (hk : k < log.length) :
    FnL Tryz.prog c 20 [pt g, I k] L fun r L' => r = B (follB p bd log k) ∧ L' = L.set i (Ck g p bd log k) := by
  refine FnL.at hL fun R => ?_
  have hmem := gAt hk
  have hcc := ho.cl _ hmem
  have hll := ho.l
  have hlg : (log.map sgav).length = log.length := by simp
  have hF : follB p bd log k = ((log.getD k default).cl.all (properB p) && ruleB p bd log k (log.getD k default)) := rfl
  refine fnLE_run (T := tab) [42, 37, 38, 39, 40, 41] Tryz.func20 rfl Tryz.ntmps20 rfl Tryz.results20 (fun c1 hw0 hle0 => ?_)
  repeat' ((conv => whnf) <;> (first | (refine LK.eff (Eff.mins (l := fm5.take 4) (ev := AV.v) mapFK 0 rfl rfl rfl (x := 5) (v := fnV 41) rfl rfl) ?_ <;> rintro _ _ ⟨rfl, rfl⟩) | (refine LK.eff (Eff.mins (l := fm5.take 3) (ev := AV.v) mapFK 0 rfl rfl rfl (x := 4) (v := fnV 40) rfl rfl) ?_ <;> rintro _ _ ⟨rfl, rfl⟩) | (refine LK.eff (Eff.mins (l := fm5.take 2) (ev := AV.v) mapFK 0 rfl rfl rfl (x := 3) (v := fnV 39) rfl rfl) ?_ <;> rintro _ _ ⟨rfl, rfl⟩) | (refine LK.eff (Eff.mins (l := fm5.take 1) (ev := AV.v) mapFK 0 rfl rfl rfl (x := 2) (v := fnV 38) rfl rfl) ?_ <;> rintro _ _ ⟨rfl, rfl⟩) | (refine LK.eff (Eff.mins (l := []) (ev := AV.v) mapFK 0 rfl rfl rfl (x := 1) (v := fnV 37) rfl rfl) ?_ <;> rintro _ _ ⟨rfl, rfl⟩) | (refine LK.eff Eff.mkmap ?_ <;> rintro _ _ ⟨gm, rfl, rfl⟩) | refine Must.mk (fun h => h) ?_ | refine Must.mk (fun _ => rfl) ?_ | refine Must.mk Qw ?_ | refine MW.ok Qw ?_ | intro _ | exact Fin.pure rfl | refine Br.tt ?_ | refine Br.ff ?_ | (refine Br.mk (fun h => ?_) (fun h => ?_) <;> (try simp only [sh] at h) <;> (try first | (exfalso; omega) | exact absurd trivial h | (exfalso; simp at h; done))) | refine Ix.at ‹_› Qw ?_ | refine Ix.mapN Qw ?_ | refine Ix.mapN1 Qw ?_ | refine Ix.map Qw ?_ | refine Ix.at Qi Qw ?_ | refine lB (T := tab) ?_ | refine lBA (T := tab) ?_ | refine rA (T := tab) ?_ | refine r1 (T := tab) ?_ | refine LK.askW rfl ?_ | refine s1 ?_ | refine sA ?_ | refine Kx.nil ?_ | refine Kx.stp (T := tab) rfl rfl Qs ?_ | refine kA (T := tab) ?_ | (refine Kx.frzR 0 rfl ?_ <;> refine kF (T := tab) ?_) | refine kP (T := tab) ?_ | refine k1 (T := tab) ?_ | refine kB (T := tab) ?_ | refine kL (T := tab) ?_ | refine CK.any false Qk ?_ | refine XK.nil ?_ | refine CK.regX [42, 37, 38, 39, 40, 41] ?_ | refine XK.defer rfl ?_ | refine XK.deferF rfl rfl ?_ | refine ⟨rfl, PanX.of _ Qs ⟨rfl, ?_⟩⟩ | refine KxX.nil ?_ | refine KxX.stp (T := tab) rfl rfl Qs ?_ | exact True.intro | fail))
  have hlc : ((log.getD k default).cl.map ltav).length = (log.getD k default).cl.length := by simp
  repeat' ((conv => whnf) <;> (first | refine Must.mk (fun h => h) ?_ | refine Must.mk (fun _ => rfl) ?_ | refine Must.mk Qw ?_ | refine MW.ok Qw ?_ | intro _ | exact Fin.pure rfl | refine Br.tt ?_ | refine Br.ff ?_ | (refine Br.mk (fun h => ?_) (fun h => ?_) <;> (try simp only [sh] at h) <;> (try first | (exfalso; omega) | exact absurd trivial h | (exfalso; simp at h; done))) | refine Ix.at ‹_› Qw ?_ | refine Ix.mapN Qw ?_ | refine Ix.mapN1 Qw ?_ | refine Ix.map Qw ?_ | refine Ix.at Qi Qw ?_ | refine lB (T := tab) ?_ | refine lBA (T := tab) ?_ | refine rA (T := tab) ?_ | refine r1 (T := tab) ?_ | refine LK.askW rfl ?_ | refine s1 ?_ | refine sA ?_ | refine Kx.nil ?_ | refine Kx.stp (T := tab) rfl rfl Qs ?_ | refine kA (T := tab) ?_ | (refine Kx.frzR 0 rfl ?_ <;> refine kF (T := tab) ?_) | refine kP (T := tab) ?_ | refine k1 (T := tab) ?_ | refine kB (T := tab) ?_ | refine kL (T := tab) ?_ | refine CK.any false Qk ?_ | refine XK.nil ?_ | refine CK.regX [42, 37, 38, 39, 40, 41] ?_ | refine XK.defer rfl ?_ | refine XK.deferF rfl rfl ?_ | refine ⟨rfl, PanX.of _ Qs ⟨rfl, ?_⟩⟩ | refine KxX.nil ?_ | refine KxX.stp (T := tab) rfl rfl Qs ?_ | exact True.intro | fail))
  rename_i bres bst
  (conv => whnf); refine CK.loopX [42, 37, 38, 39, 40, 41] [8, 28, 29, 30, 31, 32, 33, 34, 35, 36] (σ := Nat) (fun j => j ≤ (log.getD k default).cl.length ∧ ((log.getD k default).cl.take j).all (properB p) = true) (fun j => [(28, I j)]) (fun _ => []) (.blk bst 43 false [.sl 3 ((log.getD k default).cl.map ltav), I (log.getD k default).rule, .sl 1 ((log.getD k default).frm.map I)] :: .mp gm (encM eI AV.v fm5) :: .blk bres 4 false [B false] :: Ck g p bd log k :: R) (fun j => (log.getD k default).cl.length - j) 0 ⟨Nat.zero_le _, rfl⟩ Qy (List.Sublist.refl _) ?_
  conv => whnf
  rintro j ⟨j1, j2⟩
  by_cases hj : j < (log.getD k default).cl.length
  · repeat' ((conv => whnf) <;> (first | (refine Dfr.of (inv36 _) (uFol1_pan Qj) ?_ <;> rintro _ _ ⟨hu, rfl⟩ <;> refine ⟨hu, ?_⟩) | refine Must.mk (fun h => h) ?_ | refine Must.mk (fun _ => rfl) ?_ | refine Must.mk Qw ?_ | refine MW.ok Qw ?_ | intro _ | exact Fin.pure rfl | refine Br.tt ?_ | refine Br.ff ?_ | (refine Br.mk (fun h => ?_) (fun h => ?_) <;> (try simp only [sh] at h) <;> (try first | (exfalso; omega) | exact absurd trivial h | (exfalso; simp at h; done))) | refine Ix.at ‹_› Qw ?_ | refine Ix.mapN Qw ?_ | refine Ix.mapN1 Qw ?_ | refine Ix.map Qw ?_ | refine Ix.at Qi Qw ?_ | (refine LK.callL ent43 (uProper_ok (p := p) (bd := bd) (log := log) (cur := (k : Int)) Qj ((log.getD k default).cl.getD j default) ho.du ho.wk) rfl rfl Ql (fun _ _ hcall => ?_) <;> obtain ⟨rfl, rfl⟩ := hcall) | refine LK.callLW ent43 rfl ?_ (fun h => uProper_ok (p := p) (bd := bd) (log := log) (cur := (k : Int)) Qj ((log.getD k default).cl.getD j default) ho.du ho.wk) rfl rfl Ql ?_ | (refine KxX.callL ent43 (uProper_ok (p := p) (bd := bd) (log := log) (cur := (k : Int)) Qj ((log.getD k default).cl.getD j default) ho.du ho.wk) rfl rfl rfl Ql (fun _ _ hcall => by obtain ⟨rfl, rfl⟩ := hcall; exact Qs) (fun _ _ hcall => ?_) <;> obtain ⟨rfl, rfl⟩ := hcall) | (refine XK.call ent42 (uReq_ok _) rfl rfl Ql (fun _ _ hcall => ?_) (fun _ hpan => ?_) <;> (first | obtain ⟨⟨rfl, hb⟩, rfl⟩ := hcall | obtain ⟨rfl, hb⟩ := hpan)) | (refine KxX.call ent42 (uReq_ok _) rfl rfl rfl Ql (fun _ _ hcall => by obtain ⟨⟨rfl, hb⟩, rfl⟩ := hcall; exact Qs) (fun _ _ hcall => ?_) (fun _ hpan => ?_) <;> (first | obtain ⟨⟨rfl, hb⟩, rfl⟩ := hcall | obtain ⟨rfl, hb⟩ := hpan)) | refine lB (T := tab) ?_ | refine lBA (T := tab) ?_ | refine rA (T := tab) ?_ | refine r1 (T := tab) ?_ | refine LK.askW rfl ?_ | refine s1 ?_ | refine sA ?_ | refine Kx.nil ?_ | refine Kx.stp (T := tab) rfl rfl Qs ?_ | refine kA (T := tab) ?_ | (refine Kx.frzR 0 rfl ?_ <;> refine kF (T := tab) ?_) | refine kP (T := tab) ?_ | refine k1 (T := tab) ?_ | refine kB (T := tab) ?_ | refine kL (T := tab) ?_ | refine CK.any false Qk ?_ | refine XK.nil ?_ | refine CK.regX [42, 37, 38, 39, 40, 41] ?_ | refine XK.defer rfl ?_ | refine XK.deferF rfl rfl ?_ | refine ⟨rfl, PanX.of _ Qs ⟨rfl, ?_⟩⟩ | refine KxX.nil ?_ | refine KxX.stp (T := tab) rfl rfl Qs ?_ | exact True.intro | fail))
    · (conv => whnf); (refine Nxt.of (j + 1) [8, 28, 29, 30, 31, 32, 33, 34, 35, 36] Qr Qr Qr ?_ ?_ Qy ?_ <;> (try dsimp only) <;> (try omega))
      · exact ⟨hj, all_take j2 hj hb⟩
      · exact Qs
    · conv => whnf
      refine .out _ (by exact Qs) ⟨congrArg B ?_, rfl⟩
      rw [hF, all_at hj hb, Bool.false_and]
  rw [List.take_of_length_le (by omega)] at j2
  have hrs : (log.getD k default).rule = 1 ∨ (log.getD k default).rule = 2 ∨ (log.getD k default).rule = 3 ∨ (log.getD k default).rule = 4 ∨ (log.getD k default).rule = 5 ∨ ((log.getD k default).rule ≠ 1 ∧ (log.getD k default).rule ≠ 2 ∧ (log.getD k default).rule ≠ 3 ∧ (log.getD k default).rule ≠ 4 ∧ (log.getD k default).rule ≠ 5) := by omega
  rcases hrs with hr | hr | hr | hr | hr | ⟨n1, n2, n3, n4, n5⟩
  · have hru : ruleB p bd log k (log.getD k default) = someB p (log.getD k default) := by
      unfold ruleB
      rw [if_pos hr]
    have hlk : lk (log.getD k default).rule fm5 = some (fnV 37) := by rw [hr]; rfl
    repeat' ((conv => whnf) <;> (first | (refine Dfr.of (inv36 _) (uFol1_idle _) ?_ <;> rintro _ _ ⟨rfl, rfl⟩ <;> refine ⟨rfl, ?_⟩) | (refine Dfr.of (inv36 _) (uFol1_pan Qj) ?_ <;> rintro _ _ ⟨hu, rfl⟩ <;> refine ⟨hu, ?_⟩) | refine LK.gr (Gr.ofEq (r' := .tup [.v (fnV 37), B true]) (Gr.mget (l := fm5) (ev := AV.v) (dflt := .nilFunc) mapFK rfl (fun _ => .v _) 1 rfl rfl rfl rfl).2 (by rw [hlk]; rfl)) ?_ | refine Must.mk (fun h => h) ?_ | refine Must.mk (fun _ => rfl) ?_ | refine Must.mk Qw ?_ | refine MW.ok Qw ?_ | intro _ | exact Fin.pure rfl | refine Br.tt ?_ | refine Br.ff ?_ | (refine Br.mk (fun h => ?_) (fun h => ?_) <;> (try simp only [sh] at h) <;> (try first | (exfalso; omega) | exact absurd trivial h | (exfalso; simp at h; done))) | refine Ix.at ‹_› Qw ?_ | refine Ix.mapN Qw ?_ | refine Ix.mapN1 Qw ?_ | refine Ix.map Qw ?_ | refine Ix.at Qi Qw ?_ | (refine XK.call ent42 (uReq_ok true) rfl rfl Ql (fun _ _ hcall => ?_) (fun _ hpan => ?_) <;> (first | obtain ⟨⟨rfl, _⟩, rfl⟩ := hcall | obtain ⟨_, ⟨⟩⟩ := hpan)) | (refine XK.call ent37 (uSome_ok (p := p) (bd := bd) (log := log) (cur := (k : Int)) Qj (log.getD k default) ho.du ho.wk (by omega) (by omega)) rfl rfl Ql (fun _ _ hcall => ?_) (fun _ hpan => ?_) <;> (first | obtain ⟨⟨rfl, hb⟩, rfl⟩ := hcall | obtain ⟨rfl, hb⟩ := hpan)) | refine lB (T := tab) ?_ | refine lBA (T := tab) ?_ | refine rA (T := tab) ?_ | refine r1 (T := tab) ?_ | refine LK.askW rfl ?_ | refine s1 ?_ | refine sA ?_ | refine CK.any false Qk ?_ | refine XK.nil ?_ | refine CK.regX [42, 37, 38, 39, 40, 41] ?_ | refine XK.defer rfl ?_ | refine XK.deferF rfl rfl ?_ | refine ⟨rfl, PanX.of _ Qs ⟨rfl, ?_⟩⟩ | exact True.intro | fail))
    · conv => whnf
      refine .out _ (by exact Qs) ⟨congrArg B ?_, rfl⟩
      rw [hF, j2, hru, hb]; rfl
    · conv => whnf
      refine .out _ (by exact Qs) ⟨congrArg B ?_, rfl⟩
      rw [hF, j2, hru, hb]; rfl
  · have hru : ruleB p bd log k (log.getD k default) = oneB (log.getD k default) := by
      unfold ruleB
      rw [if_neg (by omega)]; rw [if_pos hr]
    have hlk : lk (log.getD k default).rule fm5 = some (fnV 38) := by rw [hr]; rfl
    repeat' ((conv => whnf) <;> (first | (refine Dfr.of (inv36 _) (uFol1_idle _) ?_ <;> rintro _ _ ⟨rfl, rfl⟩ <;> refine ⟨rfl, ?_⟩) | (refine Dfr.of (inv36 _) (uFol1_pan Qj) ?_ <;> rintro _ _ ⟨hu, rfl⟩ <;> refine ⟨hu, ?_⟩) | refine LK.gr (Gr.ofEq (r' := .tup [.v (fnV 38), B true]) (Gr.mget (l := fm5) (ev := AV.v) (dflt := .nilFunc) mapFK rfl (fun _ => .v _) 1 rfl rfl rfl rfl).2 (by rw [hlk]; rfl)) ?_ | refine Must.mk (fun h => h) ?_ | refine Must.mk (fun _ => rfl) ?_ | refine Must.mk Qw ?_ | refine MW.ok Qw ?_ | intro _ | exact Fin.pure rfl | refine Br.tt ?_ | refine Br.ff ?_ | (refine Br.mk (fun h => ?_) (fun h => ?_) <;> (try simp only [sh] at h) <;> (try first | (exfalso; omega) | exact absurd trivial h | (exfalso; simp at h; done))) | refine Ix.at ‹_› Qw ?_ | refine Ix.mapN Qw ?_ | refine Ix.mapN1 Qw ?_ | refine Ix.map Qw ?_ | refine Ix.at Qi Qw ?_ | (refine XK.call ent42 (uReq_ok true) rfl rfl Ql (fun _ _ hcall => ?_) (fun _ hpan => ?_) <;> (first | obtain ⟨⟨rfl, _⟩, rfl⟩ := hcall | obtain ⟨_, ⟨⟩⟩ := hpan)) | (refine XK.call ent38 (uOne_ok (pt g) (log.getD k default) (by omega) (by omega)) rfl rfl Ql (fun _ _ hcall => ?_) (fun _ hpan => ?_) <;> (first | obtain ⟨⟨rfl, hb⟩, rfl⟩ := hcall | obtain ⟨rfl, hb⟩ := hpan)) | refine lB (T := tab) ?_ | refine lBA (T := tab) ?_ | refine rA (T := tab) ?_ | refine r1 (T := tab) ?_ | refine LK.askW rfl ?_ | refine s1 ?_ | refine sA ?_ | refine CK.any false Qk ?_ | refine XK.nil ?_ | refine CK.regX [42, 37, 38, 39, 40, 41] ?_ | refine XK.defer rfl ?_ | refine XK.deferF rfl rfl ?_ | refine ⟨rfl, PanX.of _ Qs ⟨rfl, ?_⟩⟩ | exact True.intro | fail))
    · conv => whnf
      refine .out _ (by exact Qs) ⟨congrArg B ?_, rfl⟩
      rw [hF, j2, hru, hb]; rfl
    · conv => whnf
      refine .out _ (by exact Qs) ⟨congrArg B ?_, rfl⟩
      rw [hF, j2, hru, hb]; rfl
  · have hru : ruleB p bd log k (log.getD k default) = badS p (log.getD k default) := by
      unfold ruleB
      rw [if_neg (by omega)]; rw [if_neg (by omega)]; rw [if_pos hr]
    have hlk : lk (log.getD k default).rule fm5 = some (fnV 39) := by rw [hr]; rfl
    repeat' ((conv => whnf) <;> (first | (refine Dfr.of (inv36 _) (uFol1_idle _) ?_ <;> rintro _ _ ⟨rfl, rfl⟩ <;> refine ⟨rfl, ?_⟩) | (refine Dfr.of (inv36 _) (uFol1_pan Qj) ?_ <;> rintro _ _ ⟨hu, rfl⟩ <;> refine ⟨hu, ?_⟩) | refine LK.gr (Gr.ofEq (r' := .tup [.v (fnV 39), B true]) (Gr.mget (l := fm5) (ev := AV.v) (dflt := .nilFunc) mapFK rfl (fun _ => .v _) 1 rfl rfl rfl rfl).2 (by rw [hlk]; rfl)) ?_ | refine Must.mk (fun h => h) ?_ | refine Must.mk (fun _ => rfl) ?_ | refine Must.mk Qw ?_ | refine MW.ok Qw ?_ | intro _ | exact Fin.pure rfl | refine Br.tt ?_ | refine Br.ff ?_ | (refine Br.mk (fun h => ?_) (fun h => ?_) <;> (try simp only [sh] at h) <;> (try first | (exfalso; omega) | exact absurd trivial h | (exfalso; simp at h; done))) | refine Ix.at ‹_› Qw ?_ | refine Ix.mapN Qw ?_ | refine Ix.mapN1 Qw ?_ | refine Ix.map Qw ?_ | refine Ix.at Qi Qw ?_ | (refine XK.call ent42 (uReq_ok true) rfl rfl Ql (fun _ _ hcall => ?_) (fun _ hpan => ?_) <;> (first | obtain ⟨⟨rfl, _⟩, rfl⟩ := hcall | obtain ⟨_, ⟨⟩⟩ := hpan)) | (refine XK.call ent39 (uBad_ok (p := p) (bd := bd) (log := log) (cur := (k : Int)) Qj (log.getD k default) ho hmem j2) rfl rfl Ql (fun _ _ hcall => ?_) (fun _ hpan => ?_) <;> (first | obtain ⟨⟨rfl, hb⟩, rfl⟩ := hcall | obtain ⟨rfl, hb⟩ := hpan)) | refine lB (T := tab) ?_ | refine lBA (T := tab) ?_ | refine rA (T := tab) ?_ | refine r1 (T := tab) ?_ | refine LK.askW rfl ?_ | refine s1 ?_ | refine sA ?_ | refine CK.any false Qk ?_ | refine XK.nil ?_ | refine CK.regX [42, 37, 38, 39, 40, 41] ?_ | refine XK.defer rfl ?_ | refine XK.deferF rfl rfl ?_ | refine ⟨rfl, PanX.of _ Qs ⟨rfl, ?_⟩⟩ | exact True.intro | fail))
    · conv => whnf
      refine .out _ (by exact Qs) ⟨congrArg B ?_, rfl⟩
      rw [hF, j2, hru, hb]; rfl
    · conv => whnf
      refine .out _ (by exact Qs) ⟨congrArg B ?_, rfl⟩
      rw [hF, j2, hru, hb]; rfl
  · have hru : ruleB p bd log k (log.getD k default) = costS p bd (log.getD k default) := by
      unfold ruleB
      rw [if_neg (by omega)]; rw [if_neg (by omega)]; rw [if_neg (by omega)]; rw [if_pos hr]
    have hlk : lk (log.getD k default).rule fm5 = some (fnV 40) := by rw [hr]; rfl
    repeat' ((conv => whnf) <;> (first | (refine Dfr.of (inv36 _) (uFol1_idle _) ?_ <;> rintro _ _ ⟨rfl, rfl⟩ <;> refine ⟨rfl, ?_⟩) | (refine Dfr.of (inv36 _) (uFol1_pan Qj) ?_ <;> rintro _ _ ⟨hu, rfl⟩ <;> refine ⟨hu, ?_⟩) | refine LK.gr (Gr.ofEq (r' := .tup [.v (fnV 40), B true]) (Gr.mget (l := fm5) (ev := AV.v) (dflt := .nilFunc) mapFK rfl (fun _ => .v _) 1 rfl rfl rfl rfl).2 (by rw [hlk]; rfl)) ?_ | refine Must.mk (fun h => h) ?_ | refine Must.mk (fun _ => rfl) ?_ | refine Must.mk Qw ?_ | refine MW.ok Qw ?_ | intro _ | exact Fin.pure rfl | refine Br.tt ?_ | refine Br.ff ?_ | (refine Br.mk (fun h => ?_) (fun h => ?_) <;> (try simp only [sh] at h) <;> (try first | (exfalso; omega) | exact absurd trivial h | (exfalso; simp at h; done))) | refine Ix.at ‹_› Qw ?_ | refine Ix.mapN Qw ?_ | refine Ix.mapN1 Qw ?_ | refine Ix.map Qw ?_ | refine Ix.at Qi Qw ?_ | (refine XK.call ent42 (uReq_ok true) rfl rfl Ql (fun _ _ hcall => ?_) (fun _ hpan => ?_) <;> (first | obtain ⟨⟨rfl, _⟩, rfl⟩ := hcall | obtain ⟨_, ⟨⟩⟩ := hpan)) | (refine XK.call ent40 (uCost_ok (p := p) (bd := bd) (log := log) (cur := (k : Int)) Qj (log.getD k default) ho hmem j2) rfl rfl Ql (fun _ _ hcall => ?_) (fun _ hpan => ?_) <;> (first | obtain ⟨⟨rfl, hb⟩, rfl⟩ := hcall | obtain ⟨rfl, hb⟩ := hpan)) | refine lB (T := tab) ?_ | refine lBA (T := tab) ?_ | refine rA (T := tab) ?_ | refine r1 (T := tab) ?_ | refine LK.askW rfl ?_ | refine s1 ?_ | refine sA ?_ | refine CK.any false Qk ?_ | refine XK.nil ?_ | refine CK.regX [42, 37, 38, 39, 40, 41] ?_ | refine XK.defer rfl ?_ | refine XK.deferF rfl rfl ?_ | refine ⟨rfl, PanX.of _ Qs ⟨rfl, ?_⟩⟩ | exact True.intro | fail))
    · conv => whnf
      refine .out _ (by exact Qs) ⟨congrArg B ?_, rfl⟩
      rw [hF, j2, hru, hb]; rfl
    · conv => whnf
      refine .out _ (by exact Qs) ⟨congrArg B ?_, rfl⟩
      rw [hF, j2, hru, hb]; rfl
  · have hru : ruleB p bd log k (log.getD k default) = unitB log k (log.getD k default) := by
      unfold ruleB
      rw [if_neg (by omega)]; rw [if_neg (by omega)]; rw [if_neg (by omega)]; rw [if_neg (by omega)]; rw [if_pos hr]
    have hlk : lk (log.getD k default).rule fm5 = some (fnV 41) := by rw [hr]; rfl
    repeat' ((conv => whnf) <;> (first | (refine Dfr.of (inv36 _) (uFol1_idle _) ?_ <;> rintro _ _ ⟨rfl, rfl⟩ <;> refine ⟨rfl, ?_⟩) | (refine Dfr.of (inv36 _) (uFol1_pan Qj) ?_ <;> rintro _ _ ⟨hu, rfl⟩ <;> refine ⟨hu, ?_⟩) | refine LK.gr (Gr.ofEq (r' := .tup [.v (fnV 41), B true]) (Gr.mget (l := fm5) (ev := AV.v) (dflt := .nilFunc) mapFK rfl (fun _ => .v _) 1 rfl rfl rfl rfl).2 (by rw [hlk]; rfl)) ?_ | refine Must.mk (fun h => h) ?_ | refine Must.mk (fun _ => rfl) ?_ | refine Must.mk Qw ?_ | refine MW.ok Qw ?_ | intro _ | exact Fin.pure rfl | refine Br.tt ?_ | refine Br.ff ?_ | (refine Br.mk (fun h => ?_) (fun h => ?_) <;> (try simp only [sh] at h) <;> (try first | (exfalso; omega) | exact absurd trivial h | (exfalso; simp at h; done))) | refine Ix.at ‹_› Qw ?_ | refine Ix.mapN Qw ?_ | refine Ix.mapN1 Qw ?_ | refine Ix.map Qw ?_ | refine Ix.at Qi Qw ?_ | (refine XK.call ent42 (uReq_ok true) rfl rfl Ql (fun _ _ hcall => ?_) (fun _ hpan => ?_) <;> (first | obtain ⟨⟨rfl, _⟩, rfl⟩ := hcall | obtain ⟨_, ⟨⟩⟩ := hpan)) | (refine XK.call ent41 (uUnit_ok (p := p) (bd := bd) (log := log) (cur := k) Qj (log.getD k default) ho hmem hk) rfl rfl Ql (fun _ _ hcall => ?_) (fun _ hpan => ?_) <;> (first | obtain ⟨⟨rfl, hb⟩, rfl⟩ := hcall | obtain ⟨rfl, hb⟩ := hpan)) | refine lB (T := tab) ?_ | refine lBA (T := tab) ?_ | refine rA (T := tab) ?_ | refine r1 (T := tab) ?_ | refine LK.askW rfl ?_ | refine s1 ?_ | refine sA ?_ | refine CK.any false Qk ?_ | refine XK.nil ?_ | refine CK.regX [42, 37, 38, 39, 40, 41] ?_ | refine XK.defer rfl ?_ | refine XK.deferF rfl rfl ?_ | refine ⟨rfl, PanX.of _ Qs ⟨rfl, ?_⟩⟩ | exact True.intro | fail))
    · conv => whnf
      refine .out _ (by exact Qs) ⟨congrArg B ?_, rfl⟩
      rw [hF, j2, hru, hb]; rfl
    · conv => whnf
      refine .out _ (by exact Qs) ⟨congrArg B ?_, rfl⟩
      rw [hF, j2, hru, hb]; rfl
  · have hru : ruleB p bd log k (log.getD k default) = false := by
      unfold ruleB
      rw [if_neg n1, if_neg n2, if_neg n3, if_neg n4, if_neg n5]
    have hlk : lk (log.getD k default).rule fm5 = none := by
      unfold fm5
      simp only [lk]
      rw [if_neg n1, if_neg n2, if_neg n3, if_neg n4, if_neg n5]
    repeat' ((conv => whnf) <;> (first | (refine Dfr.of (inv36 _) (uFol1_pan Qj) ?_ <;> rintro _ _ ⟨hu, rfl⟩ <;> refine ⟨hu, ?_⟩) | refine LK.gr (Gr.ofEq (r' := .tup [.v .nilFunc, B false]) (Gr.mget (l := fm5) (ev := AV.v) (dflt := .nilFunc) mapFK rfl (fun _ => .v _) 1 rfl rfl rfl rfl).2 (by rw [hlk]; rfl)) ?_ | refine Must.mk (fun h => h) ?_ | refine Must.mk (fun _ => rfl) ?_ | refine Must.mk Qw ?_ | refine MW.ok Qw ?_ | intro _ | exact Fin.pure rfl | refine Br.tt ?_ | refine Br.ff ?_ | (refine Br.mk (fun h => ?_) (fun h => ?_) <;> (try simp only [sh] at h) <;> (try first | (exfalso; omega) | exact absurd trivial h | (exfalso; simp at h; done))) | refine Ix.at ‹_› Qw ?_ | refine Ix.mapN Qw ?_ | refine Ix.mapN1 Qw ?_ | refine Ix.map Qw ?_ | refine Ix.at Qi Qw ?_ | (refine XK.call ent42 (uReq_ok false) rfl rfl Ql (fun _ _ hcall => ?_) (fun _ hpan => ?_) <;> (first | obtain ⟨⟨_, ⟨⟩⟩, _⟩ := hcall | obtain ⟨rfl, _⟩ := hpan)) | refine lB (T := tab) ?_ | refine lBA (T := tab) ?_ | refine rA (T := tab) ?_ | refine r1 (T := tab) ?_ | refine LK.askW rfl ?_ | refine s1 ?_ | refine sA ?_ | refine CK.any false Qk ?_ | refine XK.nil ?_ | refine CK.regX [42, 37, 38, 39, 40, 41] ?_ | refine XK.defer rfl ?_ | refine XK.deferF rfl rfl ?_ | refine ⟨rfl, PanX.of _ Qs ⟨rfl, ?_⟩⟩ | exact True.intro | fail))
    conv => whnf
    refine .out _ (by exact Qs) ⟨congrArg B ?_, rfl⟩
    rw [hF, hru, Bool.and_false]
end Go.Proofs.YthjllgabmgkocaaGreat
