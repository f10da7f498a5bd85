/-
  Walks: RosterRest.
  Conditions: those of each theorem.
-/
import Derived.Test.YtlnokdkhglmogaaGreatLG
namespace Go.E2
section
variable {P : Program} {T : Tr} {c : Ctx} {n : Cfg} {F : Fr} {L : List Ent} {ops : Array Oper}
/-! the entry of a map made while the old value may still be read -/
def WE (cs : List Nat) (i : Nat) (en : Ent) (L : List Ent) (rest : List Nat) (L' : List Ent) : Prop := (rest = cs ∧ L' = L) ∨ (rest.length < cs.length ∧ L' = L.set i en)
theorem CK.anyE [hT : TabOK P T] {m : Nat} {ro : Option Nat} {K : KT} {ds : List Deferred} {id : Nat} (fs cs : List Nat) (i : Nat) (en : Ent) (s0 : Nat) (hs0 : s0 ∈ cs) (hs1 : fs.all (fun i => edgeB ops s0 i) = true) (hB : anyKB ops fs cs = true)
    (h : wpo P T c ⟨m, ds, ro⟩ ops L (fun Ff => wpo P T c ⟨m, ds, ro⟩ ops (L.set i en) (fun F' => Ff = F' ∧ Kw P c ⟨m, ds, ro⟩ ops (WE cs i en L) (fun F L => K ds .normal F L) cs F' L) (fs.map fun i => ops.toList.getD i default) F) (fs.map fun i => ops.toList.getD i default) F) : CK P T c m ro (.region id ops true) K ds F L := by
  simp only [anyKB, Bool.and_eq_true] at hB
  obtain ⟨⟨h1, h2⟩, h3⟩ := hB
  refine ⟨fun Q hQ => ?_⟩
  have e : ops.toList.toArray = ops := Array.toArray_toList
  have mono : ∀ {cs' : List Nat} {F : Fr} {L' : List Ent}, Kw P c ⟨m, ds, ro⟩ ops (WE cs i en L) (fun F L => K ds .normal F L) cs' F L' → Kw P c ⟨m, ds, ro⟩ ops (WE cs i en L) (fun F L' => Lx P c ⟨m, ds, ro⟩ ops Q [] F L') cs' F L' := fun hk => by
    induction hk with
    | nil h => exact .nil (Lx.nil (hQ _ _ _ _ h))
    | cons ho R hs hw hk ih => exact .cons ho R hs hw ih
  obtain ⟨F1, g1, g2⟩ := wpo_out h
  obtain ⟨F2, g3, rfl, g4⟩ := wpo_out g2
  have := Cx.anyW (P := P) (c := c) (n := ⟨m, ds, ro⟩) (Q := Q) (F := F) (L := L) (id := id) (l := ops.toList) fs cs (W := WE cs i en L) s0 hs0 (by rw [e]; exact hs1) (Ff := F1) hT.fol rfl h1 (by rw [e]; exact h2) (by rw [e]; exact h3) (by
    rw [e]
    intro rest L' hW _
    rcases hW with ⟨_, rfl⟩ | ⟨_, rfl⟩
    · exact g1
    · exact g3) (by rw [e]; exact mono g4)
  rwa [e] at this
theorem Gr.cast {o : Op} {ty : TypeId} {r r' : AV} (e : r = r') (h : Gr P c n o ty F L r) : Gr P c n o ty F L r' := e ▸ h
theorem Kw.stp [TabOK P T] {W : List Nat → List Ent → Prop} {K : Fr → List Ent → Prop} {i : Nat} {is : List Nat} {d : Option Tmp} {o : Op} {ty : TypeId} {pos : String} {aft : Array Edge} (ho : ops[i]? = some ⟨d, o, ty, pos, aft, none⟩) (hw : W (i :: is) L) (h : E2.gr P T c n true F L ty o fun r => putK d r F fun F => Kw P c n ops W K is F L) : Kw P c n ops W K (i :: is) F L := by
  obtain ⟨r, h1, h2⟩ := gr_out h
  exact .cons ho (fun r' L' => r' = r ∧ L' = L) ⟨fun _ _ hag hk => Lx.gr rfl ((h1 rfl).congr fun _ hm => look_op hag hm) (hk r L ⟨rfl, rfl⟩)⟩ hw fun _ _ e => by
    obtain ⟨rfl, rfl⟩ := e
    exact putK_out h2
theorem Kw.eff {W : List Nat → List Ent → Prop} {K : Fr → List Ent → Prop} {i : Nat} {is : List Nat} {d : Option Tmp} {o : Op} {ty : TypeId} {pos : String} {aft : Array Edge} {R : AV → List Ent → Prop} (ho : ops[i]? = some ⟨d, o, ty, pos, aft, none⟩) (h : Eff P c n ops ⟨d, o, ty, pos, aft, none⟩ F L R) (hw : W (i :: is) L) (k : ∀ r L', R r L' → putK d r F fun F => Kw P c n ops W K is F L') : Kw P c n ops W K (i :: is) F L :=
  .cons ho R h hw fun r L' hR => putK_out (k r L' hR)
end
end Go.E2
namespace Go.Proofs.YtlnokdkhglmogaaGreat
open Go.E2 Go.Wage
abbrev eK (x : K2) : Value := .agg #[.int .i64 x.1, .int .i64 x.2]
theorem mapPK : MapK Tryz.prog 58 59 3 eK IsI2 :=
  ⟨Tryz.underlying58, key_i2 Tryz.underlying59 Tryz.underlying3 (one_of (T := tab) rfl rfl) (Go.info_of_underlying Tryz.underlying3) (by kernel_rfl), fun x => ⟨x, rfl⟩, fun x y h => by
    injection h with h
    obtain ⟨a, b⟩ := x
    obtain ⟨a', b'⟩ := y
    simp at h
    rw [h.1, h.2]⟩
set_option maxRecDepth 4000 in
set_option maxHeartbeats 8000000 in
theorem xRest_all (p : Pl) (ro : List Int) (hz : PlZ p) (hr : ro.length ≤ 9223372036854775807) :
    FnA Tryz.prog 9 [.agg (pcs p), .sl 1 (ro.map I)] (B true) := by
  have c0 := xHead_ok
  have c1 := vSmall_ok p ro 9 hz.ch hz.wk hr hz.aw
  by_cases hs : smallV p ro 9 = true
  · have hsm := small_of hs
    have h40 := (smallV_iff.1 hs).2.1
    have c2 := oBad_ok p ro hsm
    rw [hs] at c1
    by_cases hk : okRo p ro = true
    · rw [if_pos hk, if_pos hk] at c2
      have hbl := badP_len hsm hk
      have hlb : ((badP p ro).map viav).length = (badP p ro).length := by simp
      have hlr : (ro.map I).length = ro.length := by simp
      have hld : (p.duties.map duav).length = p.duties.length := by simp
      have hrl : ro.length = p.duties.length := by
        have h := hk
        unfold okRo at h
        exact (isRo_iff.1 (Bool.and_eq_true_iff.1 h).2).1
      have hdet := bad_det hk
      have hnd := bad_nodup p ro
      have hiff := fun (i k : Nat) (h1 : i < k) (h2 : k < ro.length) => kk_iff hk h1 h2
      have hklen := kk_len hk
      generalize badP p ro = bd at *
      refine fn_run (T := tab) Tryz.func9 rfl Tryz.ntmps9 rfl Tryz.results9 (fun _ => ?_)
      repeat' ((conv => whnf) <;> (first | (refine LK.eff Eff.mkmap ?_ <;> rintro _ _ ⟨_, rfl, rfl⟩) | refine Must.mk (fun h => h) ?_ | refine Must.mk (fun _ => rfl) ?_ | refine Must.mk Qw ?_ | refine MW.ok Qw ?_ | intro _ | exact Fin.pure rfl | refine Fin.pure ?_ | refine Br.tt ?_ | refine Br.ff ?_ | (refine Br.mk (fun h => ?_) (fun h => ?_) <;> (try simp only [sh] at h) <;> (try first | (exfalso; omega) | exact absurd trivial h | (exfalso; simp at h; done))) | refine Ix.at ‹_› Qw ?_ | refine Ix.mapN Qw ?_ | refine Ix.mapN1 Qw ?_ | refine Ix.map Qw ?_ | refine Ix.at Qi Qw ?_ | refine Quo.nn Qw ?_ | refine Quo.t Qw ?_ | refine Rem.nn Qw ?_ | refine Rem.t Qw ?_ | refine LK.callA ent11 (c0) rfl rfl (SbL.refl _) ?_ | refine Ask.callA ent11 (fun h => c0) rfl rfl (SbL.refl _) ?_ | refine LK.callA ent11 (c0) rfl rfl Ql ?_ | refine Ask.callA ent11 (fun h => c0) rfl rfl Ql ?_ | refine LK.callA ent12 (c1) rfl rfl (SbL.refl _) ?_ | refine Ask.callA ent12 (fun h => c1) rfl rfl (SbL.refl _) ?_ | refine LK.callA ent12 (c1) rfl rfl Ql ?_ | refine Ask.callA ent12 (fun h => c1) rfl rfl Ql ?_ | refine LK.callA ent13 (c2) rfl rfl (SbL.refl _) ?_ | refine Ask.callA ent13 (fun h => c2) rfl rfl (SbL.refl _) ?_ | refine LK.callA ent13 (c2) rfl rfl Ql ?_ | refine Ask.callA ent13 (fun h => c2) rfl rfl Ql ?_ | refine Ask.ldB (T := tab) 0 rfl rfl rfl rfl ?_ | refine Ask.ldB (T := tab) 1 rfl rfl rfl rfl ?_ | refine Ask.ldBA (T := tab) 0 rfl rfl rfl rfl ?_ | refine Ask.ldBA (T := tab) 1 rfl rfl rfl rfl ?_ | refine AskR.cellA (T := tab) 0 rfl rfl rfl rfl ?_ | refine AskR.cellA (T := tab) 1 rfl rfl rfl rfl ?_ | refine AskR.cell1 (T := tab) 0 rfl rfl rfl rfl ?_ | refine AskR.cell1 (T := tab) 1 rfl rfl rfl rfl ?_ | refine LK.askW rfl ?_ | refine LK.st1 0 rfl rfl rfl rfl rfl rfl rfl ?_ | refine LK.st1 1 rfl rfl rfl rfl rfl rfl rfl ?_ | refine LK.stA 0 rfl rfl rfl rfl rfl rfl rfl rfl ?_ | refine LK.stA 1 rfl rfl rfl rfl rfl rfl rfl rfl ?_ | refine CK.any false Qk ?_ | fail))
      rename_i g
      (conv => whnf); refine CK.loopK [10, 33, 34, 35, 36, 37, 38, 39, 40, 41, 42, 43, 44, 45, 46, 47, 48, 49, 50] (σ := Nat) (fun j => j ≤ bd.length) (fun j => [(33, I j)]) (fun j => [.mp g (encM eK I (kk (bd.take j)))]) _ (fun j => bd.length - j) 0 (Nat.zero_le _) Qy Qs ?_
      conv => whnf
      rintro j hj
      by_cases hjl : j < bd.length
      · have hst := kk_step hjl
        repeat' ((conv => whnf) <;> (first | refine Must.mk (fun h => h) ?_ | refine Must.mk (fun _ => rfl) ?_ | refine Must.mk Qw ?_ | refine MW.ok Qw ?_ | intro _ | exact Fin.pure rfl | refine Br.tt ?_ | refine Br.ff ?_ | (refine Br.mk (fun h => ?_) (fun h => ?_) <;> (try simp only [sh] at h) <;> (try first | (exfalso; omega) | exact absurd trivial h | (exfalso; simp at h; done))) | refine Ix.at ‹_› Qw ?_ | refine Ix.mapN Qw ?_ | refine Ix.mapN1 Qw ?_ | refine Ix.map Qw ?_ | refine Ix.at Qi Qw ?_ | refine Quo.nn Qw ?_ | refine Quo.t Qw ?_ | refine Rem.nn Qw ?_ | refine Rem.t Qw ?_ | refine Ask.ldB (T := tab) 0 rfl rfl rfl rfl ?_ | refine Ask.ldB (T := tab) 1 rfl rfl rfl rfl ?_ | refine Ask.ldB (T := tab) 2 rfl rfl rfl rfl ?_ | refine Ask.ldBA (T := tab) 0 rfl rfl rfl rfl ?_ | refine Ask.ldBA (T := tab) 1 rfl rfl rfl rfl ?_ | refine Ask.ldBA (T := tab) 2 rfl rfl rfl rfl ?_ | refine AskR.cellA (T := tab) 0 rfl rfl rfl rfl ?_ | refine AskR.cellA (T := tab) 1 rfl rfl rfl rfl ?_ | refine AskR.cellA (T := tab) 2 rfl rfl rfl rfl ?_ | refine AskR.cell1 (T := tab) 0 rfl rfl rfl rfl ?_ | refine AskR.cell1 (T := tab) 1 rfl rfl rfl rfl ?_ | refine AskR.cell1 (T := tab) 2 rfl rfl rfl rfl ?_ | refine LK.askW rfl ?_ | refine LK.st1 0 rfl rfl rfl rfl rfl rfl rfl ?_ | refine LK.st1 1 rfl rfl rfl rfl rfl rfl rfl ?_ | refine LK.st1 2 rfl rfl rfl rfl rfl rfl rfl ?_ | refine LK.stA 0 rfl rfl rfl rfl rfl rfl rfl rfl ?_ | refine LK.stA 1 rfl rfl rfl rfl rfl rfl rfl rfl ?_ | refine LK.stA 2 rfl rfl rfl rfl rfl rfl rfl rfl ?_ | refine CK.any false Qk ?_ | fail))
        · have hn := kk_new hnd hdet hjl h
          have hu := kk_ups hnd hdet hjl h
          have hlk := fun a : Int => lk_ups ((bd.getD j default).fst, (bd.getD j default).snd) ((bd.getD j default).fst, (bd.getD j default).snd) a (kk (bd.take j))
          generalize hx : ((bd.getD j default).fst, (bd.getD j default).snd) = x at hn hu hlk
          have g1 : Value.agg #[.int .i64 (bd.getD j default).fst, .int .i64 (bd.getD j default).snd] = eK x := by rw [← hx]
          conv => whnf
          refine CK.anyE [0, 1, 2, 3, 4, 5, 6, 7] [8, 9, 10] 1 (.mp g (encM eK I (ups x 0 (kk (bd.take j))))) 10 (by simp) Qk Qk ?_
          repeat' ((conv => whnf) <;> (first | refine ⟨rfl, ?_⟩ | refine Ask.of (r := I 0) (Gr.cast (congrArg I (show (lk x (ups x 0 (kk (bd.take j)))).getD 0 = 0 by rw [hlk, if_pos rfl]; rfl)) (Gr.mget (l := ups x 0 (kk (bd.take j))) (ev := I) (x := x) (dflt := 0) mapPK rfl (fun _ => .v _) 1 rfl rfl rfl (by exact congrArg some g1)).1) ?_ | refine Ask.of (r := I 0) (Gr.cast (congrArg I (show (lk x (kk (bd.take j))).getD 0 = 0 by rw [hn]; rfl)) (Gr.mget (l := kk (bd.take j)) (ev := I) (x := x) (dflt := 0) mapPK rfl (fun _ => .v _) 1 rfl rfl rfl (by exact congrArg some g1)).1) ?_ | refine Must.mk (fun h => h) ?_ | refine Must.mk (fun _ => rfl) ?_ | refine Must.mk Qw ?_ | refine MW.ok Qw ?_ | intro _ | exact Fin.pure rfl | refine Fin.pure ?_ | refine Br.tt ?_ | refine Br.ff ?_ | (refine Br.mk (fun h => ?_) (fun h => ?_) <;> (try simp only [sh] at h) <;> (try first | (exfalso; omega) | exact absurd trivial h | (exfalso; simp at h; done))) | refine Ix.at ‹_› Qw ?_ | refine Ix.mapN Qw ?_ | refine Ix.mapN1 Qw ?_ | refine Ix.map Qw ?_ | refine Ix.at Qi Qw ?_ | refine Quo.nn Qw ?_ | refine Quo.t Qw ?_ | refine Rem.nn Qw ?_ | refine Rem.t Qw ?_ | refine Ask.ldB (T := tab) 0 rfl rfl rfl rfl ?_ | refine Ask.ldB (T := tab) 1 rfl rfl rfl rfl ?_ | refine Ask.ldB (T := tab) 2 rfl rfl rfl rfl ?_ | refine Ask.ldBA (T := tab) 0 rfl rfl rfl rfl ?_ | refine Ask.ldBA (T := tab) 1 rfl rfl rfl rfl ?_ | refine Ask.ldBA (T := tab) 2 rfl rfl rfl rfl ?_ | refine AskR.cellA (T := tab) 0 rfl rfl rfl rfl ?_ | refine AskR.cellA (T := tab) 1 rfl rfl rfl rfl ?_ | refine AskR.cellA (T := tab) 2 rfl rfl rfl rfl ?_ | refine AskR.cell1 (T := tab) 0 rfl rfl rfl rfl ?_ | refine AskR.cell1 (T := tab) 1 rfl rfl rfl rfl ?_ | refine AskR.cell1 (T := tab) 2 rfl rfl rfl rfl ?_ | refine LK.askW rfl ?_ | refine LK.st1 0 rfl rfl rfl rfl rfl rfl rfl ?_ | refine LK.st1 1 rfl rfl rfl rfl rfl rfl rfl ?_ | refine LK.st1 2 rfl rfl rfl rfl rfl rfl rfl ?_ | refine LK.stA 0 rfl rfl rfl rfl rfl rfl rfl rfl ?_ | refine LK.stA 1 rfl rfl rfl rfl rfl rfl rfl rfl ?_ | refine LK.stA 2 rfl rfl rfl rfl rfl rfl rfl rfl ?_ | refine CK.any false Qk ?_ | fail))
          · refine Kw.eff rfl (Eff.mentry (l := kk (bd.take j)) (ev := I) (x := x) (dflt := 0) mapPK rfl (fun _ => .v _) 1 rfl rfl rfl (by exact congrArg some g1)) (by exact Or.inl ⟨rfl, rfl⟩) ?_
            rintro _ _ ⟨q, hq, rfl, rfl⟩
            rw [hn] at hq ⊢
            refine Kw.stp (T := tab) rfl (Or.inr ⟨by simp, rfl⟩) ?_
            conv => whnf
            refine Kw.eff rfl (Eff.mstore (l := ups x 0 (kk (bd.take j))) (ev := I) (v := 0 + 1) 1 rfl (by exact hq) rfl rfl rfl) (by exact Or.inr ⟨by simp, rfl⟩) ?_
            rintro _ _ ⟨rfl, rfl⟩
            rw [ups_ups]
            refine Kw.nil ?_
            repeat' ((conv => whnf) <;> (first | refine Must.mk (fun h => h) ?_ | refine Must.mk (fun _ => rfl) ?_ | refine Must.mk Qw ?_ | refine MW.ok Qw ?_ | intro _ | exact Fin.pure rfl | refine Br.tt ?_ | refine Br.ff ?_ | (refine Br.mk (fun h => ?_) (fun h => ?_) <;> (try simp only [sh] at h) <;> (try first | (exfalso; omega) | exact absurd trivial h | (exfalso; simp at h; done))) | refine Ix.at ‹_› Qw ?_ | refine Ix.mapN Qw ?_ | refine Ix.mapN1 Qw ?_ | refine Ix.map Qw ?_ | refine Ix.at Qi Qw ?_ | refine Quo.nn Qw ?_ | refine Quo.t Qw ?_ | refine Rem.nn Qw ?_ | refine Rem.t Qw ?_ | refine Ask.ldB (T := tab) 0 rfl rfl rfl rfl ?_ | refine Ask.ldB (T := tab) 1 rfl rfl rfl rfl ?_ | refine Ask.ldB (T := tab) 2 rfl rfl rfl rfl ?_ | refine Ask.ldBA (T := tab) 0 rfl rfl rfl rfl ?_ | refine Ask.ldBA (T := tab) 1 rfl rfl rfl rfl ?_ | refine Ask.ldBA (T := tab) 2 rfl rfl rfl rfl ?_ | refine AskR.cellA (T := tab) 0 rfl rfl rfl rfl ?_ | refine AskR.cellA (T := tab) 1 rfl rfl rfl rfl ?_ | refine AskR.cellA (T := tab) 2 rfl rfl rfl rfl ?_ | refine AskR.cell1 (T := tab) 0 rfl rfl rfl rfl ?_ | refine AskR.cell1 (T := tab) 1 rfl rfl rfl rfl ?_ | refine AskR.cell1 (T := tab) 2 rfl rfl rfl rfl ?_ | refine LK.askW rfl ?_ | refine LK.st1 0 rfl rfl rfl rfl rfl rfl rfl ?_ | refine LK.st1 1 rfl rfl rfl rfl rfl rfl rfl ?_ | refine LK.st1 2 rfl rfl rfl rfl rfl rfl rfl ?_ | refine LK.stA 0 rfl rfl rfl rfl rfl rfl rfl rfl ?_ | refine LK.stA 1 rfl rfl rfl rfl rfl rfl rfl rfl ?_ | refine LK.stA 2 rfl rfl rfl rfl rfl rfl rfl rfl ?_ | refine CK.any false Qk ?_ | fail))
            (conv => whnf); (refine Nxt.of (j + 1) [10, 33, 34, 35, 36, 37, 38, 39, 40, 41, 42, 43, 44, 45, 46, 47, 48, 49, 50] Qr Qr Qr ?_ ?_ Qy ?_ <;> (try dsimp only) <;> (try omega))
            rw [← hu]
            exact Qs
        · (conv => whnf); (refine Nxt.of (j + 1) [10, 33, 34, 35, 36, 37, 38, 39, 40, 41, 42, 43, 44, 45, 46, 47, 48, 49, 50] Qr Qr Qr ?_ ?_ Qy ?_ <;> (try dsimp only) <;> (try omega))
          rw [hst, if_neg h, List.append_nil]
          exact Qs
      · have ek : bd.take j = bd := List.take_of_length_le (by omega)
        rw [ek]
        repeat' ((conv => whnf) <;> (first | refine Must.mk (fun h => h) ?_ | refine Must.mk (fun _ => rfl) ?_ | refine Must.mk Qw ?_ | refine MW.ok Qw ?_ | intro _ | exact Fin.pure rfl | refine Br.tt ?_ | refine Br.ff ?_ | (refine Br.mk (fun h => ?_) (fun h => ?_) <;> (try simp only [sh] at h) <;> (try first | (exfalso; omega) | exact absurd trivial h | (exfalso; simp at h; done))) | refine Ix.at ‹_› Qw ?_ | refine Ix.mapN Qw ?_ | refine Ix.mapN1 Qw ?_ | refine Ix.map Qw ?_ | refine Ix.at Qi Qw ?_ | refine Quo.nn Qw ?_ | refine Quo.t Qw ?_ | refine Rem.nn Qw ?_ | refine Rem.t Qw ?_ | refine Ask.ldB (T := tab) 0 rfl rfl rfl rfl ?_ | refine Ask.ldB (T := tab) 1 rfl rfl rfl rfl ?_ | refine Ask.ldB (T := tab) 2 rfl rfl rfl rfl ?_ | refine Ask.ldBA (T := tab) 0 rfl rfl rfl rfl ?_ | refine Ask.ldBA (T := tab) 1 rfl rfl rfl rfl ?_ | refine Ask.ldBA (T := tab) 2 rfl rfl rfl rfl ?_ | refine AskR.cellA (T := tab) 0 rfl rfl rfl rfl ?_ | refine AskR.cellA (T := tab) 1 rfl rfl rfl rfl ?_ | refine AskR.cellA (T := tab) 2 rfl rfl rfl rfl ?_ | refine AskR.cell1 (T := tab) 0 rfl rfl rfl rfl ?_ | refine AskR.cell1 (T := tab) 1 rfl rfl rfl rfl ?_ | refine AskR.cell1 (T := tab) 2 rfl rfl rfl rfl ?_ | refine LK.askW rfl ?_ | refine LK.st1 0 rfl rfl rfl rfl rfl rfl rfl ?_ | refine LK.st1 1 rfl rfl rfl rfl rfl rfl rfl ?_ | refine LK.st1 2 rfl rfl rfl rfl rfl rfl rfl ?_ | refine LK.stA 0 rfl rfl rfl rfl rfl rfl rfl rfl ?_ | refine LK.stA 1 rfl rfl rfl rfl rfl rfl rfl rfl ?_ | refine LK.stA 2 rfl rfl rfl rfl rfl rfl rfl rfl ?_ | refine CK.any false Qk ?_ | fail))
        (conv => whnf); refine CK.loopK [4, 11, 12, 13, 14, 51, 52, 53, 54, 55, 56, 57, 58, 59, 60, 61, 62, 63, 64, 65, 66, 67, 68, 69, 70, 71, 72, 73, 74, 75, 76, 77, 78, 79, 80, 81, 82, 83, 84, 85, 86, 87, 88, 89, 90, 91, 92, 93, 94, 95, 96, 97, 98, 99, 100, 101, 102, 103, 104, 105, 106, 107, 108] (σ := Nat × Nat) (fun s => s.1 ≤ ro.length ∧ s.2 = (prs p ro s.1).length) (fun ⟨i, m⟩ => [(12, I i), (11, I m)]) (fun _ => [.mp g (encM eK I (kk bd))]) _ (fun s => ro.length - s.1) (0, 0) ⟨Nat.zero_le _, rfl⟩ Qy Qs ?_
        conv => whnf
        rintro ⟨i, m⟩ ⟨i1, i2⟩
        simp only at i1 i2
        by_cases hi : i < ro.length
        · repeat' ((conv => whnf) <;> (first | refine Must.mk (fun h => h) ?_ | refine Must.mk (fun _ => rfl) ?_ | refine Must.mk Qw ?_ | refine MW.ok Qw ?_ | intro _ | exact Fin.pure rfl | refine Br.tt ?_ | refine Br.ff ?_ | (refine Br.mk (fun h => ?_) (fun h => ?_) <;> (try simp only [sh] at h) <;> (try first | (exfalso; omega) | exact absurd trivial h | (exfalso; simp at h; done))) | refine Ix.at ‹_› Qw ?_ | refine Ix.mapN Qw ?_ | refine Ix.mapN1 Qw ?_ | refine Ix.map Qw ?_ | refine Ix.at Qi Qw ?_ | refine Quo.nn Qw ?_ | refine Quo.t Qw ?_ | refine Rem.nn Qw ?_ | refine Rem.t Qw ?_ | refine Ask.ldB (T := tab) 0 rfl rfl rfl rfl ?_ | refine Ask.ldB (T := tab) 1 rfl rfl rfl rfl ?_ | refine Ask.ldB (T := tab) 2 rfl rfl rfl rfl ?_ | refine Ask.ldBA (T := tab) 0 rfl rfl rfl rfl ?_ | refine Ask.ldBA (T := tab) 1 rfl rfl rfl rfl ?_ | refine Ask.ldBA (T := tab) 2 rfl rfl rfl rfl ?_ | refine AskR.cellA (T := tab) 0 rfl rfl rfl rfl ?_ | refine AskR.cellA (T := tab) 1 rfl rfl rfl rfl ?_ | refine AskR.cellA (T := tab) 2 rfl rfl rfl rfl ?_ | refine AskR.cell1 (T := tab) 0 rfl rfl rfl rfl ?_ | refine AskR.cell1 (T := tab) 1 rfl rfl rfl rfl ?_ | refine AskR.cell1 (T := tab) 2 rfl rfl rfl rfl ?_ | refine LK.askW rfl ?_ | refine LK.st1 0 rfl rfl rfl rfl rfl rfl rfl ?_ | refine LK.st1 1 rfl rfl rfl rfl rfl rfl rfl ?_ | refine LK.st1 2 rfl rfl rfl rfl rfl rfl rfl ?_ | refine LK.stA 0 rfl rfl rfl rfl rfl rfl rfl rfl ?_ | refine LK.stA 1 rfl rfl rfl rfl rfl rfl rfl rfl ?_ | refine LK.stA 2 rfl rfl rfl rfl rfl rfl rfl rfl ?_ | refine CK.any false Qk ?_ | fail))
          (conv => whnf); refine CK.loopK [4, 11, 13, 14, 59, 60, 61, 62, 63, 64, 65, 66, 67, 68, 69, 70, 71, 72, 73, 74, 75, 76, 77, 78, 79, 80, 81, 82, 83, 84, 85, 86, 87, 88, 89, 90, 91, 92, 93, 94, 95, 96, 97, 98, 99, 100, 101, 102, 103, 104, 105, 106, 107, 108] (σ := Nat × Nat) (fun s => i < s.1 ∧ s.1 ≤ ro.length ∧ s.2 = m + rowN p ro i s.1) (fun ⟨k, m⟩ => [(13, I k), (11, I m)]) (fun _ => [.mp g (encM eK I (kk bd))]) _ (fun s => ro.length - s.1) (i + 1, m) ⟨by omega, by omega, by rw [rowN_zero]; rfl⟩ Qy Qs ?_
          conv => whnf
          rintro ⟨k, q⟩ ⟨j1, j2, j3⟩
          simp only at j1 j2 j3
          by_cases hkl : k < ro.length
          · have c3 := hRest_ok (p.duties.getD i default) (p.duties.getD k default)
            have hb := hiff i k j1 hkl
            have hg1 : Value.agg #[.int .i64 i, .int .i64 k] = eK ((i : Int), (k : Int)) := rfl
            have hrs := rowN_succ p ro j1
            have hle := rowN_le p ro i k
            have hpl : (prs p ro i).length ≤ 40 * 40 := Nat.le_trans (prs_le p ro i) (Nat.mul_le_mul (by omega) (by omega))
            have hbp : badPr p ro i k = (decide (0 ≤ ro.getD i default) && decide (ro.getD i default = ro.getD k default) && decide (restR (p.duties.getD i default) (p.duties.getD k default) < p.lim.rest)) := by
              unfold badPr restB
              rw [Bool.and_assoc]
            have hbp2 : badPr p ro i k = true ↔ (0 ≤ ro.getD i default ∧ ro.getD i default = ro.getD k default) ∧ restR (p.duties.getD i default) (p.duties.getD k default) < p.lim.rest := by
              rw [hbp]
              simp only [Bool.and_eq_true, decide_eq_true_eq]
            have hX : decide ((lk ((i : Int), (k : Int)) (kk bd)).getD 0 = 1) = (decide (0 ≤ ro.getD i default) && decide (ro.getD i default = ro.getD k default) && decide (restR (p.duties.getD i default) (p.duties.getD k default) < p.lim.rest)) := by
              rw [← hbp, Bool.eq_iff_iff, decide_eq_true_eq]
              exact hb
            repeat' ((conv => whnf) <;> (first | refine LK.gr (Gr.mget (l := kk bd) (ev := I) (x := ((i : Int), (k : Int))) (dflt := 0) mapPK rfl (fun _ => .v _) 0 rfl rfl rfl rfl).1 ?_ | refine Must.mk (fun h => h) ?_ | refine Must.mk (fun _ => rfl) ?_ | refine Must.mk Qw ?_ | refine MW.ok Qw ?_ | intro _ | exact Fin.pure rfl | refine Br.tt ?_ | refine Br.ff ?_ | (refine Br.mk (fun h => ?_) (fun h => ?_) <;> (try simp only [sh] at h) <;> (try first | (exfalso; omega) | exact absurd trivial h | (exfalso; simp at h; done))) | refine Ix.at ‹_› Qw ?_ | refine Ix.mapN Qw ?_ | refine Ix.mapN1 Qw ?_ | refine Ix.map Qw ?_ | refine Ix.at Qi Qw ?_ | refine Quo.nn Qw ?_ | refine Quo.t Qw ?_ | refine Rem.nn Qw ?_ | refine Rem.t Qw ?_ | refine LK.callA ent21 (c3) rfl rfl (SbL.refl _) ?_ | refine Ask.callA ent21 (fun h => c3) rfl rfl (SbL.refl _) ?_ | refine LK.callA ent21 (c3) rfl rfl Ql ?_ | refine Ask.callA ent21 (fun h => c3) rfl rfl Ql ?_ | refine Ask.ldB (T := tab) 0 rfl rfl rfl rfl ?_ | refine Ask.ldB (T := tab) 1 rfl rfl rfl rfl ?_ | refine Ask.ldB (T := tab) 2 rfl rfl rfl rfl ?_ | refine Ask.ldBA (T := tab) 0 rfl rfl rfl rfl ?_ | refine Ask.ldBA (T := tab) 1 rfl rfl rfl rfl ?_ | refine Ask.ldBA (T := tab) 2 rfl rfl rfl rfl ?_ | refine AskR.cellA (T := tab) 0 rfl rfl rfl rfl ?_ | refine AskR.cellA (T := tab) 1 rfl rfl rfl rfl ?_ | refine AskR.cellA (T := tab) 2 rfl rfl rfl rfl ?_ | refine AskR.cell1 (T := tab) 0 rfl rfl rfl rfl ?_ | refine AskR.cell1 (T := tab) 1 rfl rfl rfl rfl ?_ | refine AskR.cell1 (T := tab) 2 rfl rfl rfl rfl ?_ | refine LK.askW rfl ?_ | refine LK.st1 0 rfl rfl rfl rfl rfl rfl rfl ?_ | refine LK.st1 1 rfl rfl rfl rfl rfl rfl rfl ?_ | refine LK.st1 2 rfl rfl rfl rfl rfl rfl rfl ?_ | refine LK.stA 0 rfl rfl rfl rfl rfl rfl rfl rfl ?_ | refine LK.stA 1 rfl rfl rfl rfl rfl rfl rfl rfl ?_ | refine LK.stA 2 rfl rfl rfl rfl rfl rfl rfl rfl ?_ | refine CK.any false Qk ?_ | fail))
            · exact absurd hX.symm h
            · rename_i h5
              (conv => whnf); (refine Nxt.of ((k + 1, q + 1)) [4, 11, 13, 14, 59, 60, 61, 62, 63, 64, 65, 66, 67, 68, 69, 70, 71, 72, 73, 74, 75, 76, 77, 78, 79, 80, 81, 82, 83, 84, 85, 86, 87, 88, 89, 90, 91, 92, 93, 94, 95, 96, 97, 98, 99, 100, 101, 102, 103, 104, 105, 106, 107, 108] Qr Qr Qr ?_ ?_ Qy Qs <;> (try dsimp only) <;> (try omega))
              rw [if_pos (hbp2.2 h5)] at hrs
              exact ⟨by omega, by omega, by omega⟩
            · exact absurd hX.symm h
            · rename_i h5
              (conv => whnf); (refine Nxt.of ((k + 1, q)) [4, 11, 13, 14, 59, 60, 61, 62, 63, 64, 65, 66, 67, 68, 69, 70, 71, 72, 73, 74, 75, 76, 77, 78, 79, 80, 81, 82, 83, 84, 85, 86, 87, 88, 89, 90, 91, 92, 93, 94, 95, 96, 97, 98, 99, 100, 101, 102, 103, 104, 105, 106, 107, 108] Qr Qr Qr ?_ ?_ Qy Qs <;> (try dsimp only) <;> (try omega))
              rw [if_neg (fun h6 => by have := hbp2.1 h6; omega)] at hrs
              exact ⟨by omega, by omega, by omega⟩
          · repeat' ((conv => whnf) <;> (first | refine Must.mk (fun h => h) ?_ | refine Must.mk (fun _ => rfl) ?_ | refine Must.mk Qw ?_ | refine MW.ok Qw ?_ | intro _ | exact Fin.pure rfl | refine Br.tt ?_ | refine Br.ff ?_ | (refine Br.mk (fun h => ?_) (fun h => ?_) <;> (try simp only [sh] at h) <;> (try first | (exfalso; omega) | exact absurd trivial h | (exfalso; simp at h; done))) | refine Ix.at ‹_› Qw ?_ | refine Ix.mapN Qw ?_ | refine Ix.mapN1 Qw ?_ | refine Ix.map Qw ?_ | refine Ix.at Qi Qw ?_ | refine Quo.nn Qw ?_ | refine Quo.t Qw ?_ | refine Rem.nn Qw ?_ | refine Rem.t Qw ?_ | refine Ask.ldB (T := tab) 0 rfl rfl rfl rfl ?_ | refine Ask.ldB (T := tab) 1 rfl rfl rfl rfl ?_ | refine Ask.ldB (T := tab) 2 rfl rfl rfl rfl ?_ | refine Ask.ldBA (T := tab) 0 rfl rfl rfl rfl ?_ | refine Ask.ldBA (T := tab) 1 rfl rfl rfl rfl ?_ | refine Ask.ldBA (T := tab) 2 rfl rfl rfl rfl ?_ | refine AskR.cellA (T := tab) 0 rfl rfl rfl rfl ?_ | refine AskR.cellA (T := tab) 1 rfl rfl rfl rfl ?_ | refine AskR.cellA (T := tab) 2 rfl rfl rfl rfl ?_ | refine AskR.cell1 (T := tab) 0 rfl rfl rfl rfl ?_ | refine AskR.cell1 (T := tab) 1 rfl rfl rfl rfl ?_ | refine AskR.cell1 (T := tab) 2 rfl rfl rfl rfl ?_ | refine LK.askW rfl ?_ | refine LK.st1 0 rfl rfl rfl rfl rfl rfl rfl ?_ | refine LK.st1 1 rfl rfl rfl rfl rfl rfl rfl ?_ | refine LK.st1 2 rfl rfl rfl rfl rfl rfl rfl ?_ | refine LK.stA 0 rfl rfl rfl rfl rfl rfl rfl rfl ?_ | refine LK.stA 1 rfl rfl rfl rfl rfl rfl rfl rfl ?_ | refine LK.stA 2 rfl rfl rfl rfl rfl rfl rfl rfl ?_ | refine CK.any false Qk ?_ | fail))
            (conv => whnf); (refine Nxt.of ((i + 1, q)) [4, 11, 12, 13, 14, 51, 52, 53, 54, 55, 56, 57, 58, 59, 60, 61, 62, 63, 64, 65, 66, 67, 68, 69, 70, 71, 72, 73, 74, 75, 76, 77, 78, 79, 80, 81, 82, 83, 84, 85, 86, 87, 88, 89, 90, 91, 92, 93, 94, 95, 96, 97, 98, 99, 100, 101, 102, 103, 104, 105, 106, 107, 108] Qr Qr Qr ?_ ?_ Qy Qs <;> (try dsimp only) <;> (try omega))
            rw [prs_succ, ← i2]
            have : k = ro.length := by omega
            subst this
            exact ⟨by omega, j3⟩
        · repeat' ((conv => whnf) <;> (first | refine Ask.of (Gr.mlen (l := kk bd) mapPK 0 rfl rfl) ?_ | refine Must.mk (fun h => h) ?_ | refine Must.mk (fun _ => rfl) ?_ | refine Must.mk Qw ?_ | refine MW.ok Qw ?_ | intro _ | exact Fin.pure rfl | refine Br.tt ?_ | refine Br.ff ?_ | (refine Br.mk (fun h => ?_) (fun h => ?_) <;> (try simp only [sh] at h) <;> (try first | (exfalso; omega) | exact absurd trivial h | (exfalso; simp at h; done))) | refine Ix.at ‹_› Qw ?_ | refine Ix.mapN Qw ?_ | refine Ix.mapN1 Qw ?_ | refine Ix.map Qw ?_ | refine Ix.at Qi Qw ?_ | refine Quo.nn Qw ?_ | refine Quo.t Qw ?_ | refine Rem.nn Qw ?_ | refine Rem.t Qw ?_ | refine Ask.ldB (T := tab) 0 rfl rfl rfl rfl ?_ | refine Ask.ldB (T := tab) 1 rfl rfl rfl rfl ?_ | refine Ask.ldB (T := tab) 2 rfl rfl rfl rfl ?_ | refine Ask.ldBA (T := tab) 0 rfl rfl rfl rfl ?_ | refine Ask.ldBA (T := tab) 1 rfl rfl rfl rfl ?_ | refine Ask.ldBA (T := tab) 2 rfl rfl rfl rfl ?_ | refine AskR.cellA (T := tab) 0 rfl rfl rfl rfl ?_ | refine AskR.cellA (T := tab) 1 rfl rfl rfl rfl ?_ | refine AskR.cellA (T := tab) 2 rfl rfl rfl rfl ?_ | refine AskR.cell1 (T := tab) 0 rfl rfl rfl rfl ?_ | refine AskR.cell1 (T := tab) 1 rfl rfl rfl rfl ?_ | refine AskR.cell1 (T := tab) 2 rfl rfl rfl rfl ?_ | refine LK.askW rfl ?_ | refine LK.st1 0 rfl rfl rfl rfl rfl rfl rfl ?_ | refine LK.st1 1 rfl rfl rfl rfl rfl rfl rfl ?_ | refine LK.st1 2 rfl rfl rfl rfl rfl rfl rfl ?_ | refine LK.stA 0 rfl rfl rfl rfl rfl rfl rfl rfl ?_ | refine LK.stA 1 rfl rfl rfl rfl rfl rfl rfl rfl ?_ | refine LK.stA 2 rfl rfl rfl rfl rfl rfl rfl rfl ?_ | refine CK.any false Qk ?_ | fail))
          conv => whnf
          refine Fin.pure (congrArg B ?_)
          rw [hklen, i2, show i = ro.length by omega]
          simp
    · rw [if_neg hk, if_neg hk] at c2
      refine fn_run (T := tab) Tryz.func9 rfl Tryz.ntmps9 rfl Tryz.results9 (fun _ => ?_)
      repeat' ((conv => whnf) <;> (first | refine Must.mk (fun h => h) ?_ | refine Must.mk (fun _ => rfl) ?_ | refine Must.mk Qw ?_ | refine MW.ok Qw ?_ | intro _ | exact Fin.pure rfl | refine Fin.pure ?_ | refine Br.tt ?_ | refine Br.ff ?_ | (refine Br.mk (fun h => ?_) (fun h => ?_) <;> (try simp only [sh] at h) <;> (try first | (exfalso; omega) | exact absurd trivial h | (exfalso; simp at h; done))) | refine Ix.at ‹_› Qw ?_ | refine Ix.mapN Qw ?_ | refine Ix.mapN1 Qw ?_ | refine Ix.map Qw ?_ | refine Ix.at Qi Qw ?_ | refine Quo.nn Qw ?_ | refine Quo.t Qw ?_ | refine Rem.nn Qw ?_ | refine Rem.t Qw ?_ | refine LK.callA ent11 (c0) rfl rfl (SbL.refl _) ?_ | refine Ask.callA ent11 (fun h => c0) rfl rfl (SbL.refl _) ?_ | refine LK.callA ent11 (c0) rfl rfl Ql ?_ | refine Ask.callA ent11 (fun h => c0) rfl rfl Ql ?_ | refine LK.callA ent12 (c1) rfl rfl (SbL.refl _) ?_ | refine Ask.callA ent12 (fun h => c1) rfl rfl (SbL.refl _) ?_ | refine LK.callA ent12 (c1) rfl rfl Ql ?_ | refine Ask.callA ent12 (fun h => c1) rfl rfl Ql ?_ | refine LK.callA ent13 (c2) rfl rfl (SbL.refl _) ?_ | refine Ask.callA ent13 (fun h => c2) rfl rfl (SbL.refl _) ?_ | refine LK.callA ent13 (c2) rfl rfl Ql ?_ | refine Ask.callA ent13 (fun h => c2) rfl rfl Ql ?_ | refine Ask.ldB (T := tab) 0 rfl rfl rfl rfl ?_ | refine Ask.ldB (T := tab) 1 rfl rfl rfl rfl ?_ | refine Ask.ldBA (T := tab) 0 rfl rfl rfl rfl ?_ | refine Ask.ldBA (T := tab) 1 rfl rfl rfl rfl ?_ | refine AskR.cellA (T := tab) 0 rfl rfl rfl rfl ?_ | refine AskR.cellA (T := tab) 1 rfl rfl rfl rfl ?_ | refine AskR.cell1 (T := tab) 0 rfl rfl rfl rfl ?_ | refine AskR.cell1 (T := tab) 1 rfl rfl rfl rfl ?_ | refine LK.askW rfl ?_ | refine LK.st1 0 rfl rfl rfl rfl rfl rfl rfl ?_ | refine LK.st1 1 rfl rfl rfl rfl rfl rfl rfl ?_ | refine LK.stA 0 rfl rfl rfl rfl rfl rfl rfl rfl ?_ | refine LK.stA 1 rfl rfl rfl rfl rfl rfl rfl rfl ?_ | refine CK.any false Qk ?_ | fail))
  · rw [Bool.eq_false_iff.2 hs] at c1
    refine fn_run (T := tab) Tryz.func9 rfl Tryz.ntmps9 rfl Tryz.results9 (fun _ => ?_)
    repeat' ((conv => whnf) <;> (first | refine Must.mk (fun h => h) ?_ | refine Must.mk (fun _ => rfl) ?_ | refine Must.mk Qw ?_ | refine MW.ok Qw ?_ | intro _ | exact Fin.pure rfl | refine Fin.pure ?_ | refine Br.tt ?_ | refine Br.ff ?_ | (refine Br.mk (fun h => ?_) (fun h => ?_) <;> (try simp only [sh] at h) <;> (try first | (exfalso; omega) | exact absurd trivial h | (exfalso; simp at h; done))) | refine Ix.at ‹_› Qw ?_ | refine Ix.mapN Qw ?_ | refine Ix.mapN1 Qw ?_ | refine Ix.map Qw ?_ | refine Ix.at Qi Qw ?_ | refine Quo.nn Qw ?_ | refine Quo.t Qw ?_ | refine Rem.nn Qw ?_ | refine Rem.t Qw ?_ | refine LK.callA ent11 (c0) rfl rfl (SbL.refl _) ?_ | refine Ask.callA ent11 (fun h => c0) rfl rfl (SbL.refl _) ?_ | refine LK.callA ent11 (c0) rfl rfl Ql ?_ | refine Ask.callA ent11 (fun h => c0) rfl rfl Ql ?_ | refine LK.callA ent12 (c1) rfl rfl (SbL.refl _) ?_ | refine Ask.callA ent12 (fun h => c1) rfl rfl (SbL.refl _) ?_ | refine LK.callA ent12 (c1) rfl rfl Ql ?_ | refine Ask.callA ent12 (fun h => c1) rfl rfl Ql ?_ | refine Ask.ldB (T := tab) 0 rfl rfl rfl rfl ?_ | refine Ask.ldB (T := tab) 1 rfl rfl rfl rfl ?_ | refine Ask.ldBA (T := tab) 0 rfl rfl rfl rfl ?_ | refine Ask.ldBA (T := tab) 1 rfl rfl rfl rfl ?_ | refine AskR.cellA (T := tab) 0 rfl rfl rfl rfl ?_ | refine AskR.cellA (T := tab) 1 rfl rfl rfl rfl ?_ | refine AskR.cell1 (T := tab) 0 rfl rfl rfl rfl ?_ | refine AskR.cell1 (T := tab) 1 rfl rfl rfl rfl ?_ | refine LK.askW rfl ?_ | refine LK.st1 0 rfl rfl rfl rfl rfl rfl rfl ?_ | refine LK.st1 1 rfl rfl rfl rfl rfl rfl rfl ?_ | refine LK.stA 0 rfl rfl rfl rfl rfl rfl rfl rfl ?_ | refine LK.stA 1 rfl rfl rfl rfl rfl rfl rfl rfl ?_ | refine CK.any false Qk ?_ | fail))
end Go.Proofs.YtlnokdkhglmogaaGreat
