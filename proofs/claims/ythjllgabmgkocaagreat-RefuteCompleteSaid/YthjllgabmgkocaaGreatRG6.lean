/-
  Walks: package refute: unit.
  Conditions: those of each theorem.
-/
import Derived.Test.YthjllgabmgkocaaGreatRG5
namespace Go.Proofs.YthjllgabmgkocaaGreat
open Go.E2 Go.Wage
theorem eL_inj {x y : Lt} (h : (Value.agg #[.int .i64 x.du, .int .i64 x.wk, .bool x.is]) = .agg #[.int .i64 y.du, .int .i64 y.wk, .bool y.is]) : x = y := by
  injection h with h
  have h2 := congrArg Array.toList h
  simp only [List.cons.injEq, Value.int.injEq, Value.bool.injEq, true_and, and_true] at h2
  obtain ⟨a, b, d⟩ := x
  obtain ⟨a', b', d'⟩ := y
  simp only at h2
  obtain ⟨rfl, rfl, rfl⟩ := h2
  rfl
def IsLt (a : Value) : Prop := ∃ l : Lt, a = .agg #[.int .i64 l.du, .int .i64 l.wk, .bool l.is]
abbrev eL (l : Lt) : Value := .agg #[.int .i64 l.du, .int .i64 l.wk, .bool l.is]
theorem keyL : KeyT Tryz.prog 45 IsLt := by
  have hI : Tryz.prog.underlying 3 = some (.int .i64) := Tryz.underlying3
  have hB : Tryz.prog.underlying 4 = some .bool := Tryz.underlying4
  have oI : OneT Tryz.prog 3 := one_of (T := tab) rfl rfl
  have oB : OneT Tryz.prog 4 := one_of (T := tab) rfl rfl
  refine key_wide (by rw [Tryz.underlying45]) ?_ ?_ ?_
  · rintro e _ ⟨l, rfl⟩ w
    refine chk_struct Tryz.underlying45 (fun f hf => ?_) w
    simp only [List.mem_cons, List.not_mem_nil, or_false] at hf
    rcases hf with rfl | rfl | rfl
    · exact ⟨by decide, _, fun w => ⟨part_one oI rfl w, chk_scalar hI rfl _ _ w⟩⟩
    · exact ⟨by decide, _, fun w => ⟨part_one oI rfl w, chk_scalar hI rfl _ _ w⟩⟩
    · exact ⟨by decide, _, fun w => ⟨part_one oB rfl w, chk_scalar hB rfl _ _ w⟩⟩
  · rintro _ _ ⟨x, rfl⟩ ⟨y, rfl⟩
    refine ⟨decide (x = y), fun w => ?_, ?_⟩
    · have := (eqs45 x.du y.du x.wk y.wk x.is y.is).out w
      rw [eqLt] at this
      rw [run_eql_struct] at this
      have e : Op.equal 45 (eL x) (eL y) = Op.equalIn 10000 45 (eL x) (eL y) := rfl
      rw [e]
      generalize (Op.equalIn 10000 45 (eL x) (eL y)).run Tryz.prog w = r at *
      cases r with
      | ok b w' => simp_all
      | halt a b => simp_all
    · rw [decide_eq_true_eq]
      constructor
      · rintro rfl; rfl
      · exact eL_inj
  · rintro _ ⟨x, rfl⟩
    have : ∀ n, Instr.sameBits (n + 1) (eL x) (eL x) = true := fun n => by simp [Instr.sameBits]
    exact this 9999
theorem mapLK : MapK Tryz.prog 119 45 4 eL IsLt := ⟨Tryz.underlying119, keyL, fun x => ⟨x, rfl⟩, fun _ _ h => eL_inj h⟩
/-- a map that holds the literals of a list -/
def Held (held : List Lt) (M : List (Lt × Bool)) : Prop := ∀ x, lk x M = if x ∈ held then some true else none
theorem Held.nil : Held [] [] := fun _ => rfl
theorem Held.put {held : List Lt} {M : List (Lt × Bool)} (h : Held held M) (x : Lt) : Held (x :: held) (ups x true M) := fun y => by
  rw [lk_ups, h y]
  by_cases e : y = x
  · rw [if_pos e, if_pos (by simp [e])]
  · rw [if_neg e]
    by_cases hm : y ∈ held
    · rw [if_pos hm, if_pos (by simp [hm])]
    · rw [if_neg hm, if_neg (by simp [e, hm])]
theorem Held.cong {a b : List Lt} {M : List (Lt × Bool)} (h : Held a M) (hab : ∀ x, x ∈ a ↔ x ∈ b) : Held b M := fun y => by
  rw [h y]
  by_cases e : y ∈ a
  · rw [if_pos e, if_pos ((hab y).1 e)]
  · rw [if_neg e, if_neg fun h => e ((hab y).2 h)]
theorem Held.get {held : List Lt} {M : List (Lt × Bool)} (h : Held held M) (x : Lt) : (lk x M).getD false = held.contains x := by
  rw [h x]
  by_cases e : x ∈ held
  · rw [if_pos e]; simp [e]
  · rw [if_neg e]; simp [e]
theorem open_take {held cl : List Lt} {k : Nat} (hk : k < cl.length) : openL held (cl.take (k + 1)) = openL held (cl.take k) ++ if held.contains (negL (cl.getD k default)) = true then [] else [cl.getD k default] := by
  unfold openL
  rw [take_snoc hk, List.filter_append, List.filter_cons, List.filter_nil]
  cases held.contains (negL (cl.getD k default)) <;> rfl
theorem open_len (held cl : List Lt) : (openL held cl).length ≤ cl.length := List.length_filter_le _ _
set_option maxRecDepth 4000 in
set_option maxHeartbeats 16000000 in
theorem uUnit_ok {c : Ctx} {L : List Ent} {i g : Nat} {p : Pl} {bd : Int} {log : List Sg} {cur : Nat} (hL : L[i]? = some (Ck g p bd log cur)) (s : Sg) (ho : LogOk p log) (hs : s ∈ log) (hcur : cur < log.length) :
    FnR c 41 [pt g, sgav s] L (unitB log cur s) := by
  refine FnX.same hL fun R => ?_
  have hc := ho.cl s hs
  have hll := ho.l
  have hlc : (s.cl.map ltav).length = s.cl.length := by simp
  have hlf : (s.frm.map I).length = s.frm.length := by simp
  have hlg : (log.map sgav).length = log.length := by simp
  refine fnX_run (T := tab) [42] Tryz.func41 rfl Tryz.ntmps41 rfl Tryz.results41 (fun c1 hw0 hle0 => ?_)
  repeat' ((conv => whnf) <;> (first | (refine LK.eff Eff.mkmap ?_ <;> rintro _ _ ⟨gm, rfl, rfl⟩) | refine Must.mk (fun h => h) ?_ | refine Must.mk (fun _ => rfl) ?_ | refine Must.mk Qw ?_ | refine MW.ok Qw ?_ | intro _ | exact Fin.pure rfl | refine Br.tt ?_ | refine Br.ff ?_ | (refine Br.mk (fun h => ?_) (fun h => ?_) <;> (try simp only [sh] at h) <;> (try first | (exfalso; omega) | exact absurd trivial h | (exfalso; simp at h; done))) | refine Ix.at ‹_› Qw ?_ | refine Ix.mapN Qw ?_ | refine Ix.mapN1 Qw ?_ | refine Ix.map Qw ?_ | refine Ix.at Qi Qw ?_ | refine lB (T := tab) ?_ | refine lBA (T := tab) ?_ | refine LK.askW rfl ?_ | refine s1 ?_ | refine sA ?_ | refine Kx.nil ?_ | refine Kx.stp (T := tab) rfl rfl Qs ?_ | refine kA (T := tab) ?_ | (refine Kx.frzR 0 rfl ?_ <;> refine kF (T := tab) ?_) | refine kP (T := tab) ?_ | refine k1 (T := tab) ?_ | refine kB (T := tab) ?_ | refine kL (T := tab) ?_ | refine CK.any false Qk ?_ | refine XK.nil ?_ | refine CK.regX [42] ?_ | refine XK.defer rfl ?_ | refine XK.deferF rfl rfl ?_ | refine ⟨rfl, PanX.of _ Qs ⟨rfl, ?_⟩⟩ | refine KxX.nil ?_ | refine KxX.stp (T := tab) rfl rfl Qs ?_ | exact True.intro | fail))
  (conv => whnf); refine CK.loopX [42] [6, 20, 21, 22, 23, 24, 25, 26, 27] (σ := Nat × List (Lt × Bool)) (fun q => q.1 ≤ s.cl.length ∧ Held ((s.cl.take q.1).map negL) q.2) (fun ⟨k, _⟩ => [(20, I k)]) (fun ⟨_, M⟩ => [.mp gm (encM eL B M)]) _ (fun q => s.cl.length - q.1) (0, []) ⟨Nat.zero_le _, Held.nil⟩ Qy (List.Sublist.refl _) ?_
  conv => whnf
  rintro ⟨k, M⟩ ⟨i1, i2⟩
  simp only at i1 i2
  by_cases hk : k < s.cl.length
  · have c1 := uNegate_ok (s.cl.getD k default)
    have hnx := (i2.put (negL (s.cl.getD k default))).cong (b := (s.cl.take (k + 1)).map negL) fun x => by
      rw [take_snoc hk, List.map_append, List.mem_cons, List.mem_append]
      simp [or_comm]
    repeat' ((conv => whnf) <;> (first | (refine LK.eff (Eff.mset (l := M) (ev := B) mapLK 1 rfl rfl rfl (x := negL (s.cl.getD k default)) (v := true) rfl rfl) ?_ <;> rintro _ _ ⟨rfl, rfl⟩) | refine Must.mk (fun h => h) ?_ | refine Must.mk (fun _ => rfl) ?_ | refine Must.mk Qw ?_ | refine MW.ok Qw ?_ | intro _ | exact Fin.pure rfl | refine Br.tt ?_ | refine Br.ff ?_ | (refine Br.mk (fun h => ?_) (fun h => ?_) <;> (try simp only [sh] at h) <;> (try first | (exfalso; omega) | exact absurd trivial h | (exfalso; simp at h; done))) | refine Ix.at ‹_› Qw ?_ | refine Ix.mapN Qw ?_ | refine Ix.mapN1 Qw ?_ | refine Ix.map Qw ?_ | refine Ix.at Qi Qw ?_ | refine LK.callA ent72 (c1) rfl rfl (SbL.refl _) ?_ | refine Ask.callA ent72 (fun h => c1) rfl rfl (SbL.refl _) ?_ | refine LK.callA ent72 (c1) rfl rfl Ql ?_ | refine Ask.callA ent72 (fun h => c1) rfl rfl Ql ?_ | refine lB (T := tab) ?_ | refine lBA (T := tab) ?_ | refine LK.askW rfl ?_ | refine s1 ?_ | refine sA ?_ | refine Kx.nil ?_ | refine Kx.stp (T := tab) rfl rfl Qs ?_ | refine kA (T := tab) ?_ | (refine Kx.frzR 0 rfl ?_ <;> refine kF (T := tab) ?_) | refine kP (T := tab) ?_ | refine k1 (T := tab) ?_ | refine kB (T := tab) ?_ | refine kL (T := tab) ?_ | refine CK.any false Qk ?_ | refine XK.nil ?_ | refine CK.regX [42] ?_ | refine XK.defer rfl ?_ | refine XK.deferF rfl rfl ?_ | refine ⟨rfl, PanX.of _ Qs ⟨rfl, ?_⟩⟩ | refine KxX.nil ?_ | refine KxX.stp (T := tab) rfl rfl Qs ?_ | exact True.intro | fail))
    (conv => whnf); (refine Nxt.of ((k + 1, ups (negL (s.cl.getD k default)) true M)) [6, 20, 21, 22, 23, 24, 25, 26, 27] Qr Qr Qr ?_ ?_ Qy ?_ <;> (try dsimp only) <;> (try omega))
    · exact ⟨hk, hnx⟩
    · exact Qs
  · rw [List.take_of_length_le (by omega)] at i2
    repeat' ((conv => whnf) <;> (first | refine Must.mk (fun h => h) ?_ | refine Must.mk (fun _ => rfl) ?_ | refine Must.mk Qw ?_ | refine MW.ok Qw ?_ | intro _ | exact Fin.pure rfl | refine Br.tt ?_ | refine Br.ff ?_ | (refine Br.mk (fun h => ?_) (fun h => ?_) <;> (try simp only [sh] at h) <;> (try first | (exfalso; omega) | exact absurd trivial h | (exfalso; simp at h; done))) | refine Ix.at ‹_› Qw ?_ | refine Ix.mapN Qw ?_ | refine Ix.mapN1 Qw ?_ | refine Ix.map Qw ?_ | refine Ix.at Qi Qw ?_ | refine lB (T := tab) ?_ | refine lBA (T := tab) ?_ | refine LK.askW rfl ?_ | refine s1 ?_ | refine sA ?_ | refine Kx.nil ?_ | refine Kx.stp (T := tab) rfl rfl Qs ?_ | refine kA (T := tab) ?_ | (refine Kx.frzR 0 rfl ?_ <;> refine kF (T := tab) ?_) | refine kP (T := tab) ?_ | refine k1 (T := tab) ?_ | refine kB (T := tab) ?_ | refine kL (T := tab) ?_ | refine CK.any false Qk ?_ | refine XK.nil ?_ | refine CK.regX [42] ?_ | refine XK.defer rfl ?_ | refine XK.deferF rfl rfl ?_ | refine ⟨rfl, PanX.of _ Qs ⟨rfl, ?_⟩⟩ | refine KxX.nil ?_ | refine KxX.stp (T := tab) rfl rfl Qs ?_ | exact True.intro | fail))
    (conv => whnf); refine CK.loopX [42] [8, 31, 32, 33, 34, 35, 36, 37, 38, 39, 40, 41, 42, 43, 44, 45, 46] (σ := Nat) (fun q => q ≤ s.frm.length ∧ ((s.frm.take q).all fun j => decide (0 ≤ j) && decide (j < (cur : Int))) = true) (fun k => [(31, I k)]) (fun _ => []) _ (fun q => s.frm.length - q) 0 ⟨Nat.zero_le _, rfl⟩ Qy (List.Sublist.refl _) ?_
    conv => whnf
    rintro j ⟨j1, j2⟩
    by_cases hj : j < s.frm.length
    · repeat' ((conv => whnf) <;> (first | refine Must.mk (fun h => h) ?_ | refine Must.mk (fun _ => rfl) ?_ | refine Must.mk Qw ?_ | refine MW.ok Qw ?_ | intro _ | exact Fin.pure rfl | refine Br.tt ?_ | refine Br.ff ?_ | (refine Br.mk (fun h => ?_) (fun h => ?_) <;> (try simp only [sh] at h) <;> (try first | (exfalso; omega) | exact absurd trivial h | (exfalso; simp at h; done))) | refine Ix.at ‹_› Qw ?_ | refine Ix.mapN Qw ?_ | refine Ix.mapN1 Qw ?_ | refine Ix.map Qw ?_ | refine Ix.at Qi Qw ?_ | (refine XK.call ent42 (uReq_ok _) rfl rfl Ql (fun _ _ hcall => ?_) (fun _ hpan => ?_) <;> (first | obtain ⟨⟨rfl, hb⟩, rfl⟩ := hcall | obtain ⟨rfl, hb⟩ := hpan)) | (refine KxX.call ent42 (uReq_ok _) rfl rfl rfl Ql (fun _ _ hcall => by obtain ⟨⟨rfl, hb⟩, rfl⟩ := hcall; exact Qs) (fun _ _ hcall => ?_) (fun _ hpan => ?_) <;> (first | obtain ⟨⟨rfl, hb⟩, rfl⟩ := hcall | obtain ⟨rfl, hb⟩ := hpan)) | refine lB (T := tab) ?_ | refine lBA (T := tab) ?_ | refine LK.askW rfl ?_ | refine s1 ?_ | refine sA ?_ | refine Kx.nil ?_ | refine Kx.stp (T := tab) rfl rfl Qs ?_ | refine kA (T := tab) ?_ | (refine Kx.frzR 0 rfl ?_ <;> refine kF (T := tab) ?_) | refine kP (T := tab) ?_ | refine k1 (T := tab) ?_ | refine kB (T := tab) ?_ | refine kL (T := tab) ?_ | refine CK.any false Qk ?_ | refine XK.nil ?_ | refine CK.regX [42] ?_ | refine XK.defer rfl ?_ | refine XK.deferF rfl rfl ?_ | refine ⟨rfl, PanX.of _ Qs ⟨rfl, ?_⟩⟩ | refine KxX.nil ?_ | refine KxX.stp (T := tab) rfl rfl Qs ?_ | exact True.intro | fail))
      · (conv => whnf); (refine Nxt.of (j + 1) [8, 31, 32, 33, 34, 35, 36, 37, 38, 39, 40, 41, 42, 43, 44, 45, 46] Qr Qr Qr ?_ ?_ Qy ?_ <;> (try dsimp only) <;> (try omega))
        · exact ⟨hj, all_take j2 hj hb⟩
        · exact Qs
      · rw [unitB, all_at hj hb, Bool.false_and]
    · rw [List.take_of_length_le (by omega)] at j2
      have hS : unitB log cur s = unitF log s.frm (s.cl.map negL) := by rw [unitB, j2, Bool.true_and]
      repeat' ((conv => whnf) <;> (first | refine Must.mk (fun h => h) ?_ | refine Must.mk (fun _ => rfl) ?_ | refine Must.mk Qw ?_ | refine MW.ok Qw ?_ | intro _ | exact Fin.pure rfl | refine Br.tt ?_ | refine Br.ff ?_ | (refine Br.mk (fun h => ?_) (fun h => ?_) <;> (try simp only [sh] at h) <;> (try first | (exfalso; omega) | exact absurd trivial h | (exfalso; simp at h; done))) | refine Ix.at ‹_› Qw ?_ | refine Ix.mapN Qw ?_ | refine Ix.mapN1 Qw ?_ | refine Ix.map Qw ?_ | refine Ix.at Qi Qw ?_ | refine lB (T := tab) ?_ | refine lBA (T := tab) ?_ | refine LK.askW rfl ?_ | refine s1 ?_ | refine sA ?_ | refine Kx.nil ?_ | refine Kx.stp (T := tab) rfl rfl Qs ?_ | refine kA (T := tab) ?_ | (refine Kx.frzR 0 rfl ?_ <;> refine kF (T := tab) ?_) | refine kP (T := tab) ?_ | refine k1 (T := tab) ?_ | refine kB (T := tab) ?_ | refine kL (T := tab) ?_ | refine CK.any false Qk ?_ | refine XK.nil ?_ | refine CK.regX [42] ?_ | refine XK.defer rfl ?_ | refine XK.deferF rfl rfl ?_ | refine ⟨rfl, PanX.of _ Qs ⟨rfl, ?_⟩⟩ | refine KxX.nil ?_ | refine KxX.stp (T := tab) rfl rfl Qs ?_ | exact True.intro | fail))
      (conv => whnf); refine CK.loopX [42] [9, 10, 11, 13, 15, 50, 51, 52, 53, 54, 55, 56, 57, 58, 59, 60, 61, 62, 63, 64, 65, 66, 67, 68, 69, 70, 71, 72, 73, 74, 75, 76, 77, 78, 79, 80, 81, 82, 83, 84, 85, 86, 87, 88, 89, 90, 91, 92, 93, 94, 95, 96, 97, 98, 99, 100, 101, 102, 103, 104, 105] (σ := Nat × List (Lt × Bool) × List Lt) (fun q => q.1 ≤ s.frm.length ∧ Held q.2.2 q.2.1 ∧ unitF log s.frm (s.cl.map negL) = unitF log (s.frm.drop q.1) q.2.2) (fun ⟨k, _⟩ => [(50, I k)]) (fun ⟨_, M, _⟩ => [.mp gm (encM eL B M)]) _ (fun q => s.frm.length - q.1) (0, M, s.cl.map negL) ⟨Nat.zero_le _, i2, rfl⟩ Qy (List.Sublist.refl _) ?_
      conv => whnf
      rintro ⟨e, M1, held⟩ ⟨e1, e2, e3⟩
      simp only at e1 e2 e3
      by_cases he : e < s.frm.length
      · have hfk := List.all_eq_true.1 j2 _ (gAt he)
        simp only [Bool.and_eq_true, decide_eq_true_eq] at hfk
        have hkl : (s.frm.getD e default).toNat < log.length := by omega
        have hcc := ho.cl _ (gAt hkl)
        rw [dropG he, unitF] at e3
        have htl : ((log.getD (s.frm.getD e default).toNat default).cl.map ltav).length = (log.getD (s.frm.getD e default).toNat default).cl.length := by simp
        have hol := open_len held (log.getD (s.frm.getD e default).toNat default).cl
        have hlo : (s.frm.drop (e + 1)).length = s.frm.length - (e + 1) := by simp
        repeat' ((conv => whnf) <;> (first | refine Must.mk (fun h => h) ?_ | refine Must.mk (fun _ => rfl) ?_ | refine Must.mk Qw ?_ | refine MW.ok Qw ?_ | intro _ | exact Fin.pure rfl | refine Br.tt ?_ | refine Br.ff ?_ | (refine Br.mk (fun h => ?_) (fun h => ?_) <;> (try simp only [sh] at h) <;> (try first | (exfalso; omega) | exact absurd trivial h | (exfalso; simp at h; done))) | refine Ix.at ‹_› Qw ?_ | refine Ix.mapN Qw ?_ | refine Ix.mapN1 Qw ?_ | refine Ix.map Qw ?_ | refine Ix.at Qi Qw ?_ | refine lB (T := tab) ?_ | refine lBA (T := tab) ?_ | refine LK.askW rfl ?_ | refine s1 ?_ | refine sA ?_ | refine Kx.nil ?_ | refine Kx.stp (T := tab) rfl rfl Qs ?_ | refine kA (T := tab) ?_ | (refine Kx.frzR 0 rfl ?_ <;> refine kF (T := tab) ?_) | refine kP (T := tab) ?_ | refine k1 (T := tab) ?_ | refine kB (T := tab) ?_ | refine kL (T := tab) ?_ | refine CK.any false Qk ?_ | refine XK.nil ?_ | refine CK.regX [42] ?_ | refine XK.defer rfl ?_ | refine XK.deferF rfl rfl ?_ | refine ⟨rfl, PanX.of _ Qs ⟨rfl, ?_⟩⟩ | refine KxX.nil ?_ | refine KxX.stp (T := tab) rfl rfl Qs ?_ | exact True.intro | fail))
        refine CK.nilrow 45 3 ?_
        (conv => whnf); refine CK.loopX [42] [11, 13, 64, 65, 66, 67, 68, 69, 70, 71, 72, 73, 74, 75, 76, 77] (σ := Nat × Option Addr × Nat × Nat) (fun q => q.1 ≤ (log.getD (s.frm.getD e default).toNat default).cl.length) (fun ⟨k, A, q, cp⟩ => [(64, I k), (11, .v (.slice A q cp))]) (fun ⟨k, A, q, cp⟩ => [.row (.slice A q cp) 45 3 0 false ((openL held ((log.getD (s.frm.getD e default).toNat default).cl.take k)).map ltav)]) _ (fun q => (log.getD (s.frm.getD e default).toNat default).cl.length - q.1) (0, none, 0, 0) (Nat.zero_le _) Qy (List.Sublist.refl _) ?_
        conv => whnf
        rintro ⟨f, A, q, cp⟩ f1
        simp only at f1
        by_cases hf : f < (log.getD (s.frm.getD e default).toNat default).cl.length
        · have c1 := uNegate_ok ((log.getD (s.frm.getD e default).toNat default).cl.getD f default)
          have hgt := e2.get (negL ((log.getD (s.frm.getD e default).toNat default).cl.getD f default))
          have hot := open_take (held := held) hf
          have hol2 := open_len held ((log.getD (s.frm.getD e default).toNat default).cl.take f)
          rw [List.length_take, Nat.min_eq_left (by omega)] at hol2
          repeat' ((conv => whnf) <;> (first | refine LK.gr (Gr.mget (l := M1) (ev := B) (dflt := false) mapLK rfl (fun _ => .v _) 2 rfl rfl rfl rfl).1 ?_ | refine Must.mk (fun h => h) ?_ | refine Must.mk (fun _ => rfl) ?_ | refine Must.mk Qw ?_ | refine MW.ok Qw ?_ | intro _ | exact Fin.pure rfl | refine Br.tt ?_ | refine Br.ff ?_ | (refine Br.mk (fun h => ?_) (fun h => ?_) <;> (try simp only [sh] at h) <;> (try first | (exfalso; omega) | exact absurd trivial h | (exfalso; simp at h; done))) | refine Ix.at ‹_› Qw ?_ | refine Ix.mapN Qw ?_ | refine Ix.mapN1 Qw ?_ | refine Ix.map Qw ?_ | refine Ix.at Qi Qw ?_ | refine LK.callA ent72 (c1) rfl rfl (SbL.refl _) ?_ | refine Ask.callA ent72 (fun h => c1) rfl rfl (SbL.refl _) ?_ | refine LK.callA ent72 (c1) rfl rfl Ql ?_ | refine Ask.callA ent72 (fun h => c1) rfl rfl Ql ?_ | refine lB (T := tab) ?_ | refine lBA (T := tab) ?_ | refine LK.askW rfl ?_ | refine s1 ?_ | refine sA ?_ | refine pS (T := tab) ?_ | refine LK.gr (Gr.bslV (T := tab) rfl rfl rfl rfl) ?_ | refine Ask.of (Gr.bslV (T := tab) rfl rfl rfl rfl) ?_ | refine Kx.nil ?_ | refine Kx.stp (T := tab) rfl rfl Qs ?_ | refine kA (T := tab) ?_ | refine kS (T := tab) ?_ | (refine Kx.frzR 0 rfl ?_ <;> refine kF (T := tab) ?_) | refine kP (T := tab) ?_ | refine k1 (T := tab) ?_ | refine kB (T := tab) ?_ | refine kL (T := tab) ?_ | refine CK.any false Qk ?_ | refine CK.any true Qk ?_ | refine XK.nil ?_ | refine CK.regX [42] ?_ | refine XK.defer rfl ?_ | refine XK.deferF rfl rfl ?_ | refine ⟨rfl, PanX.of _ Qs ⟨rfl, ?_⟩⟩ | refine KxX.nil ?_ | refine KxX.stp (T := tab) rfl rfl Qs ?_ | exact True.intro | fail))
          · rename_i A2 q2 cp2
            rw [hgt] at h
            rw [if_neg (by simp_all)] at hot
            (conv => whnf); (refine Nxt.of ((f + 1, A2, q2, cp2)) [11, 13, 64, 65, 66, 67, 68, 69, 70, 71, 72, 73, 74, 75, 76, 77] Qr Qr Qr ?_ ?_ Qy ?_ <;> (try dsimp only) <;> (try omega))
            rw [hot, List.map_append]
            exact Qs
          · rw [hgt] at h
            rw [if_pos (by simp_all), List.append_nil] at hot
            (conv => whnf); (refine Nxt.of ((f + 1, A, q, cp)) [11, 13, 64, 65, 66, 67, 68, 69, 70, 71, 72, 73, 74, 75, 76, 77] Qr Qr Qr ?_ ?_ Qy ?_ <;> (try dsimp only) <;> (try omega))
            rw [hot]
            exact Qs
        · have ef : (log.getD (s.frm.getD e default).toNat default).cl.take f = (log.getD (s.frm.getD e default).toNat default).cl := List.take_of_length_le (by omega)
          dsimp only
          rw [ef]
          have hoL : ((openL held (log.getD (s.frm.getD e default).toNat default).cl).map ltav).length = (openL held (log.getD (s.frm.getD e default).toNat default).cl).length := by simp
          generalize hop : openL held (log.getD (s.frm.getD e default).toNat default).cl = op at *
          repeat' ((conv => whnf) <;> (first | refine Must.mk (fun h => h) ?_ | refine Must.mk (fun _ => rfl) ?_ | refine Must.mk Qw ?_ | refine MW.ok Qw ?_ | intro _ | exact Fin.pure rfl | refine Br.tt ?_ | refine Br.ff ?_ | (refine Br.mk (fun h => ?_) (fun h => ?_) <;> (try simp only [sh] at h) <;> (try first | (exfalso; omega) | exact absurd trivial h | (exfalso; simp at h; done))) | refine Ix.at ‹_› Qw ?_ | refine Ix.mapN Qw ?_ | refine Ix.mapN1 Qw ?_ | refine Ix.map Qw ?_ | refine Ix.at Qi Qw ?_ | (refine XK.call ent42 (uReq_ok _) rfl rfl Ql (fun _ _ hcall => ?_) (fun _ hpan => ?_) <;> (first | obtain ⟨⟨rfl, hb⟩, rfl⟩ := hcall | obtain ⟨rfl, hb⟩ := hpan)) | (refine KxX.call ent42 (uReq_ok _) rfl rfl rfl Ql (fun _ _ hcall => by obtain ⟨⟨rfl, hb⟩, rfl⟩ := hcall; exact Qs) (fun _ _ hcall => ?_) (fun _ hpan => ?_) <;> (first | obtain ⟨⟨rfl, hb⟩, rfl⟩ := hcall | obtain ⟨rfl, hb⟩ := hpan)) | refine lB (T := tab) ?_ | refine lBA (T := tab) ?_ | refine nR (T := tab) ?_ | refine iR (T := tab) ?_ | refine lR (T := tab) ?_ | refine lR0 (T := tab) ?_ | refine lRA (T := tab) ?_ | refine LK.askW rfl ?_ | refine s1 ?_ | refine sA ?_ | refine LK.bsl rfl rfl rfl rfl ?_ | (refine LK.frzR 0 rfl ?_ <;> refine pF ?_) | refine pA ?_ | refine sR ?_ | refine Kx.nil ?_ | refine Kx.stp (T := tab) rfl rfl Qs ?_ | refine kA (T := tab) ?_ | (refine Kx.frzR 0 rfl ?_ <;> refine kF (T := tab) ?_) | refine kP (T := tab) ?_ | refine k1 (T := tab) ?_ | refine kB (T := tab) ?_ | refine kL (T := tab) ?_ | refine CK.any false Qk ?_ | refine XK.nil ?_ | refine CK.regX [42] ?_ | refine XK.defer rfl ?_ | refine XK.deferF rfl rfl ?_ | refine ⟨rfl, PanX.of _ Qs ⟨rfl, ?_⟩⟩ | refine KxX.nil ?_ | refine KxX.stp (T := tab) rfl rfl Qs ?_ | exact True.intro | fail))
          · conv => whnf
            refine .out _ (by exact Qs) ⟨⟨rfl, ?_⟩, rfl⟩
            rw [hS, e3, if_pos (List.eq_nil_of_length_eq_zero (by omega))]
            simp only [decide_eq_true_eq] at hb ⊢
            omega
          · rw [hS, e3, if_pos (List.eq_nil_of_length_eq_zero (by omega))]
            simp only [decide_eq_false_iff_not] at hb ⊢
            omega
          have hne : op ≠ [] := fun e => h (by rw [e]; rfl)
          rw [if_neg hne] at e3
          (conv => whnf); refine CK.loopX [42] [15, 90, 91, 92, 93, 94, 95, 96, 97, 98, 99, 100] (σ := Nat) (fun q => q ≤ op.length ∧ ((op.take q).all fun x => decide (x = op.getD 0 default)) = true) (fun k => [(90, I k)]) (fun _ => []) _ (fun q => op.length - q) 0 ⟨Nat.zero_le _, rfl⟩ Qy (List.Sublist.refl _) ?_
          conv => whnf
          rintro r ⟨r1, r2⟩
          by_cases hr : r < op.length
          · repeat' ((conv => whnf) <;> (first | refine iR (T := tab) ?_ | refine CK.anyX [0, 1, 2, 3, 4] [5] _ (List.Sublist.refl _) Qk ?_ | refine Must.mk (fun h => h) ?_ | refine Must.mk (fun _ => rfl) ?_ | refine Must.mk Qw ?_ | refine MW.ok Qw ?_ | intro _ | exact Fin.pure rfl | refine Br.tt ?_ | refine Br.ff ?_ | (refine Br.mk (fun h => ?_) (fun h => ?_) <;> (try simp only [sh] at h) <;> (try first | (exfalso; omega) | exact absurd trivial h | (exfalso; simp at h; done))) | refine Ix.at ‹_› Qw ?_ | refine Ix.mapN Qw ?_ | refine Ix.mapN1 Qw ?_ | refine Ix.map Qw ?_ | refine Ix.at Qi Qw ?_ | (refine XK.call ent42 (uReq_ok _) rfl rfl Ql (fun _ _ hcall => ?_) (fun _ hpan => ?_) <;> (first | obtain ⟨⟨rfl, hb⟩, rfl⟩ := hcall | obtain ⟨rfl, hb⟩ := hpan)) | (refine KxX.call ent42 (uReq_ok _) rfl rfl rfl Ql (fun _ _ hcall => by obtain ⟨⟨rfl, hb⟩, rfl⟩ := hcall; exact Qs) (fun _ _ hcall => ?_) (fun _ hpan => ?_) <;> (first | obtain ⟨⟨rfl, hb⟩, rfl⟩ := hcall | obtain ⟨rfl, hb⟩ := hpan)) | refine Ask.of (Gr.eqlS rfl rfl rfl rfl (eqs45 _ _ _ _ _ _)) ?_ | refine Ask.of (Gr.neqS rfl rfl rfl rfl (eqs45 _ _ _ _ _ _)) ?_ | refine Ask.of (Gr.eqlS rfl rfl rfl rfl (eqs158 _ _ _ _)) ?_ | refine Ask.of (Gr.neqS rfl rfl rfl rfl (eqs158 _ _ _ _)) ?_ | refine Ask.of (Gr.eqlS rfl rfl rfl rfl (eqs28 _ _ _ _)) ?_ | refine Ask.of (Gr.neqS rfl rfl rfl rfl (eqs28 _ _ _ _)) ?_ | refine Ask.of (Gr.eqlS rfl rfl rfl rfl (eqs104 _ _ _ _ _ _ _ _)) ?_ | refine Ask.of (Gr.neqS rfl rfl rfl rfl (eqs104 _ _ _ _ _ _ _ _)) ?_ | refine lB (T := tab) ?_ | refine lBA (T := tab) ?_ | refine lM (T := tab) ?_ | refine lM0 (T := tab) ?_ | refine lMA (T := tab) ?_ | refine sM ?_ | refine LK.askW rfl ?_ | refine s1 ?_ | refine sA ?_ | refine Kx.nil ?_ | refine Kx.stp (T := tab) rfl rfl Qs ?_ | refine kA (T := tab) ?_ | (refine Kx.frzR 0 rfl ?_ <;> refine kF (T := tab) ?_) | refine kP (T := tab) ?_ | refine k1 (T := tab) ?_ | refine kB (T := tab) ?_ | refine kL (T := tab) ?_ | refine CK.any false Qk ?_ | refine XK.nil ?_ | refine CK.regX [42] ?_ | refine XK.defer rfl ?_ | refine XK.deferF rfl rfl ?_ | refine ⟨rfl, PanX.of _ Qs ⟨rfl, ?_⟩⟩ | refine KxX.nil ?_ | refine KxX.stp (T := tab) rfl rfl Qs ?_ | exact True.intro | fail))
            · rw [eqLt] at hb
              (conv => whnf); (refine Nxt.of (r + 1) [15, 90, 91, 92, 93, 94, 95, 96, 97, 98, 99, 100] Qr Qr Qr ?_ ?_ Qy ?_ <;> (try dsimp only) <;> (try omega))
              · exact ⟨hr, all_take r2 hr hb⟩
              · exact Qs
            · rw [eqLt] at hb
              rw [hS, e3, sameL, all_at hr hb, Bool.false_and]
          · rw [List.take_of_length_le (by omega)] at r2
            rw [sameL, r2, Bool.true_and] at e3
            repeat' ((conv => whnf) <;> (first | (refine LK.eff (Eff.mset (l := M1) (ev := B) mapLK 1 rfl rfl rfl (x := op.getD 0 default) (v := true) rfl rfl) ?_ <;> rintro _ _ ⟨rfl, rfl⟩) | refine iR (T := tab) ?_ | refine Must.mk (fun h => h) ?_ | refine Must.mk (fun _ => rfl) ?_ | refine Must.mk Qw ?_ | refine MW.ok Qw ?_ | intro _ | exact Fin.pure rfl | refine Br.tt ?_ | refine Br.ff ?_ | (refine Br.mk (fun h => ?_) (fun h => ?_) <;> (try simp only [sh] at h) <;> (try first | (exfalso; omega) | exact absurd trivial h | (exfalso; simp at h; done))) | refine Ix.at ‹_› Qw ?_ | refine Ix.mapN Qw ?_ | refine Ix.mapN1 Qw ?_ | refine Ix.map Qw ?_ | refine Ix.at Qi Qw ?_ | refine lB (T := tab) ?_ | refine lBA (T := tab) ?_ | refine lM (T := tab) ?_ | refine lM0 (T := tab) ?_ | refine lMA (T := tab) ?_ | refine sM ?_ | refine LK.askW rfl ?_ | refine s1 ?_ | refine sA ?_ | refine Kx.nil ?_ | refine Kx.stp (T := tab) rfl rfl Qs ?_ | refine kA (T := tab) ?_ | (refine Kx.frzR 0 rfl ?_ <;> refine kF (T := tab) ?_) | refine kP (T := tab) ?_ | refine k1 (T := tab) ?_ | refine kB (T := tab) ?_ | refine kL (T := tab) ?_ | refine CK.any false Qk ?_ | refine XK.nil ?_ | refine CK.regX [42] ?_ | refine XK.defer rfl ?_ | refine XK.deferF rfl rfl ?_ | refine ⟨rfl, PanX.of _ Qs ⟨rfl, ?_⟩⟩ | refine KxX.nil ?_ | refine KxX.stp (T := tab) rfl rfl Qs ?_ | exact True.intro | fail))
            (conv => whnf); (refine Nxt.of ((e + 1, ups (op.getD 0 default) true M1, op.getD 0 default :: held)) [9, 10, 11, 13, 15, 50, 51, 52, 53, 54, 55, 56, 57, 58, 59, 60, 61, 62, 63, 64, 65, 66, 67, 68, 69, 70, 71, 72, 73, 74, 75, 76, 77, 78, 79, 80, 81, 82, 83, 84, 85, 86, 87, 88, 89, 90, 91, 92, 93, 94, 95, 96, 97, 98, 99, 100, 101, 102, 103, 104, 105] Qr Qr Qr ?_ ?_ Qy ?_ <;> (try dsimp only) <;> (try omega))
            · exact ⟨he, e2.put _, e3⟩
            · exact Qs
      · rw [List.drop_eq_nil_of_le (by omega), unitF] at e3
        repeat' ((conv => whnf) <;> (first | refine Must.mk (fun h => h) ?_ | refine Must.mk (fun _ => rfl) ?_ | refine Must.mk Qw ?_ | refine MW.ok Qw ?_ | intro _ | exact Fin.pure rfl | refine Br.tt ?_ | refine Br.ff ?_ | (refine Br.mk (fun h => ?_) (fun h => ?_) <;> (try simp only [sh] at h) <;> (try first | (exfalso; omega) | exact absurd trivial h | (exfalso; simp at h; done))) | refine Ix.at ‹_› Qw ?_ | refine Ix.mapN Qw ?_ | refine Ix.mapN1 Qw ?_ | refine Ix.map Qw ?_ | refine Ix.at Qi Qw ?_ | (refine XK.call ent42 (uReq_ok _) rfl rfl Ql (fun _ _ hcall => ?_) (fun _ hpan => ?_) <;> (first | obtain ⟨⟨rfl, hb⟩, rfl⟩ := hcall | obtain ⟨rfl, hb⟩ := hpan)) | (refine KxX.call ent42 (uReq_ok _) rfl rfl rfl Ql (fun _ _ hcall => by obtain ⟨⟨rfl, hb⟩, rfl⟩ := hcall; exact Qs) (fun _ _ hcall => ?_) (fun _ hpan => ?_) <;> (first | obtain ⟨⟨rfl, hb⟩, rfl⟩ := hcall | obtain ⟨rfl, hb⟩ := hpan)) | refine lB (T := tab) ?_ | refine lBA (T := tab) ?_ | refine LK.askW rfl ?_ | refine s1 ?_ | refine sA ?_ | refine Kx.nil ?_ | refine Kx.stp (T := tab) rfl rfl Qs ?_ | refine kA (T := tab) ?_ | (refine Kx.frzR 0 rfl ?_ <;> refine kF (T := tab) ?_) | refine kP (T := tab) ?_ | refine k1 (T := tab) ?_ | refine kB (T := tab) ?_ | refine kL (T := tab) ?_ | refine CK.any false Qk ?_ | refine XK.nil ?_ | refine CK.regX [42] ?_ | refine XK.defer rfl ?_ | refine XK.deferF rfl rfl ?_ | refine ⟨rfl, PanX.of _ Qs ⟨rfl, ?_⟩⟩ | refine KxX.nil ?_ | refine KxX.stp (T := tab) rfl rfl Qs ?_ | exact True.intro | fail))
        · cases hb
        · rw [hS, e3]
end Go.Proofs.YthjllgabmgkocaaGreat
