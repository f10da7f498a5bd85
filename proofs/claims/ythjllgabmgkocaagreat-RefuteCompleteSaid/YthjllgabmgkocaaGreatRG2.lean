/-
  Walks: package refute: what a worker violates.
  Conditions: those of each theorem.
-/
import Derived.Test.YthjllgabmgkocaaGreatRG1
import Derived.Test.YthjllgabmgkocaaGreatRV
import Derived.Test.YthjllgabmgkocaaGreatGB
namespace Go.Proofs.YthjllgabmgkocaaGreat
open Go.E2 Go.Wage
abbrev Jn (d : Nat) : AV := I (d : Int)
def ltav (l : Lt) : AV := .agg [I l.du, I l.wk, B l.is]
def sgav (s : Sg) : AV := .agg [.sl 3 (s.cl.map ltav), I s.rule, .sl 1 (s.frm.map I)]
def kcs (p : Pl) (bd : Int) (log : List Sg) (cur : Int) : List AV := [.v (.string p.zone.name), I p.zone.base, .sl 2 (p.zone.chs.map chav), .sl 3 (p.duties.map duav), .sl 5 (p.workers.map wkav), I p.lim.rest, I p.lim.week, I p.lim.night.1, I p.lim.night.2, I p.lim.minor,
  .sl 1 (p.duties.map fun d => .sl 2 ((minsD p d).map ptav)), .sl 1 (p.duties.map fun d => I (nightD p d)), I (cheapL p.workers), I bd, .sl 3 (log.map sgav), I cur]
abbrev Ck (g : Nat) (p : Pl) (bd : Int) (log : List Sg) (cur : Int) : Ent := .blk g 62 false (kcs p bd log cur)
abbrev pt (g : Nat) : AV := .v (.pointer (some ⟨g, 0, none⟩))
theorem set_erase {L : List Ent} {i : Nat} {e e' : Ent} (hL : L[i]? = some e) : (e' :: L.eraseIdx i).Perm (L.set i e') := by
  obtain ⟨hi, rfl⟩ := List.getElem?_eq_some_iff.1 hL
  have h := erase_perm (L := L.set i e') (i := i) (e := e') (by rw [List.getElem?_set, if_pos rfl, if_pos hi])
  rwa [show (L.set i e').eraseIdx i = L.eraseIdx i by
    apply List.ext_getElem?
    intro j
    rw [List.getElem?_eraseIdx, List.getElem?_eraseIdx]
    split
    · rw [List.getElem?_set, if_neg (by omega)]
    · rw [List.getElem?_set, if_neg (by omega)]] at h
theorem FnL.at {P : Program} {c : Ctx} {f : FuncId} {args : List AV} {L : List Ent} {e e' : Ent} {r : AV} {i : Nat} (hL : L[i]? = some e) (h : ∀ R, FnL P c f args (e :: R) fun a L' => a = r ∧ L' = e' :: R) : FnL P c f args L fun a L' => a = r ∧ L' = L.set i e' :=
  ⟨fun H w vs hs hr => Calls.mono ((h (L.eraseIdx i)).out H w vs (hs.perm (erase_perm hL).symm) hr) fun _ _ ⟨v, a, H', L', h1, ⟨h2, h3⟩, h4, h5, h6⟩ => ⟨v, a, H', _, h1, ⟨h2, rfl⟩, h4, h5, (by rw [h3] at h6; exact h6.perm (set_erase hL))⟩⟩
theorem set_self {L : List Ent} {i : Nat} {e : Ent} (hL : L[i]? = some e) : L.set i e = L := by
  obtain ⟨hi, rfl⟩ := List.getElem?_eq_some_iff.1 hL
  exact List.set_getElem_self hi
theorem FnL.same {P : Program} {c : Ctx} {f : FuncId} {args : List AV} {L : List Ent} {e : Ent} {r : AV} {i : Nat} (hL : L[i]? = some e) (h : ∀ R, FnL P c f args (e :: R) fun a L' => a = r ∧ L' = e :: R) : FnL P c f args L fun a L' => a = r ∧ L' = L := by
  have := FnL.at hL h
  rwa [set_self hL] at this
theorem FnX.same {P : Program} {c : Ctx} {f : FuncId} {args : List AV} {L : List Ent} {e : Ent} {pv : Value} {Φ : AV → Prop} {Ψ : Prop} {i : Nat} (hL : L[i]? = some e) (h : ∀ R, FnX P c f args (e :: R) pv (fun a L' => Φ a ∧ L' = e :: R) fun L' => L' = e :: R ∧ Ψ) : FnX P c f args L pv (fun a L' => Φ a ∧ L' = L) fun L' => L' = L ∧ Ψ :=
  ⟨fun H w vs hs hr => Calls.mono ((h (L.eraseIdx i)).out H w vs (hs.perm (erase_perm hL).symm) hr) fun _ _ ⟨H', L', h1, h2, h3⟩ => ⟨H', L, h1, (by
    have : L' = e :: L.eraseIdx i := by rcases h3 with ⟨_, _, _, ⟨_, h⟩, _⟩ | ⟨_, h, _⟩ <;> exact h
    rw [this] at h2
    exact h2.perm (erase_perm hL)), h3.imp (fun ⟨v, a, k1, k2, k3⟩ => ⟨v, a, k1, ⟨k2.1, rfl⟩, k3⟩) fun ⟨k1, k2⟩ => ⟨k1, rfl, k2.2⟩⟩⟩
theorem Out.l {L E : List Ent} {a r : AV} (hL : E.Sublist L) (ha : a = r) : Fin L a fun a L' => a = r ∧ L' = E := .out E hL ⟨ha, rfl⟩
/-- what a walk over a valid plan has need of -/
structure GOk (p : Pl) (mine : List Nat) : Prop where
  v : validP p = true
  m : ∀ d ∈ mine, d < p.duties.length
  l : mine.length ≤ 1000
theorem GOk.du {p : Pl} {mine : List Nat} (h : GOk p mine) {d : Nat} (hd : d ∈ mine) : dutyOk p (p.duties.getD d default) = true := List.all_eq_true.1 (validP_iff.1 h.v).2.2.2.1 _ (getD_mem (h.m d hd))
theorem dutyOk.b {p : Pl} {d : Du} (h : dutyOk p d = true) : duB d = true := by
  unfold dutyOk at h
  exact (Bool.and_eq_true_iff.1 h).1
theorem gAt {α : Type} [Inhabited α] {l : List α} {k : Nat} (h : k < l.length) : l.getD k default ∈ l := getD_mem h
theorem dropG {α : Type} [Inhabited α] {l : List α} {k : Nat} (h : k < l.length) : l.drop k = l.getD k default :: l.drop (k + 1) := by
  rw [List.drop_eq_getElem_cons h]
  simp [List.getD, h]
theorem nneg {a : Nat} : decide ((a : Int) ≠ 0) = decide (a ≠ 0) := by
  rw [decide_eq_decide]; omega
set_option maxRecDepth 4000 in
set_option maxHeartbeats 4000000 in
theorem uUnable_ok {c : Ctx} {L : List Ent} {i g : Nat} {p : Pl} {bd : Int} {log : List Sg} {cur : Int} (hL : L[i]? = some (Ck g p bd log cur)) (x : Wk) (mine : List Nat) (h : GOk p mine) (hx : wkOk x = true) :
    FnL Tryz.prog c 97 [pt g, wkav x, .sl 1 (mine.map Jn)] L fun r L' => r = B (unB p x mine) ∧ L' = L := by
  refine FnL.same hL fun R => ?_
  have hl := h.l
  have hV := validP_iff.1 h.v
  have h24 := hV.2.1
  have hX := wkOk_iff.1 hx
  have hlm : (mine.map Jn).length = mine.length := by simp
  have hld : (p.duties.map duav).length = p.duties.length := by simp
  have hln : (p.duties.map fun d => I (nightD p d)).length = p.duties.length := by simp
  have hla : (x.away.map spav).length = x.away.length := by simp
  have hsk := hX.1
  unfold inB at hsk
  rw [decide_eq_true_eq] at hsk
  refine fnL_run (T := tab) Tryz.func97 rfl Tryz.ntmps97 rfl Tryz.results97 (fun _ hw0 => ?_)
  repeat' ((conv => whnf) <;> (first | refine Must.mk (fun h => h) ?_ | refine Must.mk (fun _ => rfl) ?_ | refine Must.mk Qw ?_ | refine MW.ok Qw ?_ | intro _ | exact Fin.pure rfl | refine Br.tt ?_ | refine Br.ff ?_ | (refine Br.mk (fun h => ?_) (fun h => ?_) <;> (try simp only [sh] at h) <;> (try first | (exfalso; omega) | exact absurd trivial h | (exfalso; simp at h; done))) | refine Ix.at ‹_› Qw ?_ | refine Ix.mapN Qw ?_ | refine Ix.mapN1 Qw ?_ | refine Ix.map Qw ?_ | refine Ix.at Qi Qw ?_ | refine lB (T := tab) ?_ | refine lBA (T := tab) ?_ | refine LK.askW rfl ?_ | refine s1 ?_ | refine sA ?_ | refine CK.any false Qk ?_ | fail))
  (conv => whnf); refine CK.loopK [6, 8, 9, 11, 14, 15, 16, 17, 18, 19, 20, 21, 22, 23, 24, 25, 26, 27, 28, 29, 30, 31, 32, 33, 34, 35, 36, 37, 38, 39, 40, 41, 42, 43, 44, 45, 46, 47, 48, 49, 50, 51, 52, 53, 54, 55, 56, 57, 58, 59, 60, 61, 62, 63, 64, 65, 66] (σ := Nat) (fun k => k ≤ mine.length ∧ (mine.take k).any (fun d => unD p x (p.duties.getD d default)) = false) (fun k => [(14, I k)]) (fun _ => []) _ (fun k => mine.length - k) 0 ⟨Nat.zero_le _, rfl⟩ Qy (List.Sublist.refl _) ?_
  conv => whnf
  rintro k ⟨i1, i2⟩
  by_cases hk : k < mine.length
  · have hm := h.m _ (gAt hk)
    have hd := dutyOk.b (h.du (gAt hk))
    have hdb := duB_bd hd
    have haw := awB_any hx hd
    have hud : unD p x (p.duties.getD (mine.getD k default) default) = ((skB x (p.duties.getD (mine.getD k default) default) || (x.minor && niB p (p.duties.getD (mine.getD k default) default))) || x.away.any (awT (p.duties.getD (mine.getD k default) default))) := by rw [unD, haw]
    repeat' ((conv => whnf) <;> (first | refine Ask.of (Gr.andNotI rfl rfl (by omega) (by omega)) ?_ | refine Must.mk (fun h => h) ?_ | refine Must.mk (fun _ => rfl) ?_ | refine Must.mk Qw ?_ | refine MW.ok Qw ?_ | intro _ | exact Fin.pure rfl | refine Br.tt ?_ | refine Br.ff ?_ | (refine Br.mk (fun h => ?_) (fun h => ?_) <;> (try simp only [sh] at h) <;> (try first | (exfalso; omega) | exact absurd trivial h | (exfalso; simp at h; done))) | refine Ix.at ‹_› Qw ?_ | refine Ix.mapN Qw ?_ | refine Ix.mapN1 Qw ?_ | refine Ix.map Qw ?_ | refine Ix.at Qi Qw ?_ | refine lB (T := tab) ?_ | refine lBA (T := tab) ?_ | refine LK.askW rfl ?_ | refine s1 ?_ | refine sA ?_ | refine CK.any false Qk ?_ | fail))
    · conv => whnf
      refine .out _ (by exact Qs) ⟨?_, rfl⟩
      refine congrArg B (any_at hk ?_).symm
      rw [hud, Bool.or_eq_true]
      left
      unfold skB niB
      simp only [Bool.or_eq_true, Bool.and_eq_true, decide_eq_true_eq]
      grind
    rename_i b1
    have hno : (skB x (p.duties.getD (mine.getD k default) default) || (x.minor && niB p (p.duties.getD (mine.getD k default) default))) = false := by
      unfold skB niB
      simp only [Bool.or_eq_false_iff, Bool.and_eq_false_iff, decide_eq_false_iff_not]
      grind
    rw [hno, Bool.false_or] at hud
    (conv => whnf); refine CK.loopK [6, 11, 49, 50, 51, 52, 53, 54, 55, 56, 57, 58, 59, 60, 61, 62, 63, 64, 65] (σ := Nat) (fun j => j ≤ x.away.length ∧ (x.away.take j).any (awT (p.duties.getD (mine.getD k default) default)) = false) (fun j => [(49, I j)]) (fun _ => []) _ (fun j => x.away.length - j) 0 ⟨Nat.zero_le _, rfl⟩ Qy (List.Sublist.refl _) ?_
    conv => whnf
    rintro j ⟨j1, j2⟩
    by_cases hj : j < x.away.length
    · have hT : awT (p.duties.getD (mine.getD k default) default) (x.away.getD j default) = (decide ((x.away.getD j default).1 < (p.duties.getD (mine.getD k default) default).to_) && decide ((p.duties.getD (mine.getD k default) default).frm < (x.away.getD j default).2)) := rfl
      repeat' ((conv => whnf) <;> (first | refine Must.mk (fun h => h) ?_ | refine Must.mk (fun _ => rfl) ?_ | refine Must.mk Qw ?_ | refine MW.ok Qw ?_ | intro _ | exact Fin.pure rfl | refine Br.tt ?_ | refine Br.ff ?_ | (refine Br.mk (fun h => ?_) (fun h => ?_) <;> (try simp only [sh] at h) <;> (try first | (exfalso; omega) | exact absurd trivial h | (exfalso; simp at h; done))) | refine Ix.at ‹_› Qw ?_ | refine Ix.mapN Qw ?_ | refine Ix.mapN1 Qw ?_ | refine Ix.map Qw ?_ | refine Ix.at Qi Qw ?_ | refine lB (T := tab) ?_ | refine lBA (T := tab) ?_ | refine LK.askW rfl ?_ | refine s1 ?_ | refine sA ?_ | refine CK.any false Qk ?_ | fail))
      · conv => whnf
        refine .out _ (by exact Qs) ⟨?_, rfl⟩
        refine congrArg B (any_at hk ?_).symm
        rw [hud]
        refine any_at hj ?_
        rw [hT, Bool.and_eq_true, decide_eq_true_eq, decide_eq_true_eq]
        exact h
      · (conv => whnf); (refine Nxt.of (j + 1) [6, 11, 49, 50, 51, 52, 53, 54, 55, 56, 57, 58, 59, 60, 61, 62, 63, 64, 65] Qr Qr Qr ?_ ?_ Qy ?_ <;> (try dsimp only) <;> (try omega))
        · refine ⟨hj, any_take j2 hj ?_⟩
          rw [hT, Bool.and_eq_false_iff, decide_eq_false_iff_not, decide_eq_false_iff_not]
          omega
        · exact Qs
    · rw [List.take_of_length_le (by omega)] at j2
      repeat' ((conv => whnf) <;> (first | (refine Nxt.of (k + 1) [6, 8, 9, 11, 14, 15, 16, 17, 18, 19, 20, 21, 22, 23, 24, 25, 26, 27, 28, 29, 30, 31, 32, 33, 34, 35, 36, 37, 38, 39, 40, 41, 42, 43, 44, 45, 46, 47, 48, 49, 50, 51, 52, 53, 54, 55, 56, 57, 58, 59, 60, 61, 62, 63, 64, 65, 66] Qr Qr Qr ?_ ?_ Qy ?_ <;> (try dsimp only) <;> (try omega)) | refine Must.mk (fun h => h) ?_ | refine Must.mk (fun _ => rfl) ?_ | refine Must.mk Qw ?_ | refine MW.ok Qw ?_ | intro _ | exact Fin.pure rfl | refine Br.tt ?_ | refine Br.ff ?_ | (refine Br.mk (fun h => ?_) (fun h => ?_) <;> (try simp only [sh] at h) <;> (try first | (exfalso; omega) | exact absurd trivial h | (exfalso; simp at h; done))) | refine Ix.at ‹_› Qw ?_ | refine Ix.mapN Qw ?_ | refine Ix.mapN1 Qw ?_ | refine Ix.map Qw ?_ | refine Ix.at Qi Qw ?_ | refine lB (T := tab) ?_ | refine lBA (T := tab) ?_ | refine LK.askW rfl ?_ | refine s1 ?_ | refine sA ?_ | refine CK.any false Qk ?_ | fail))
      · exact ⟨hk, any_take i2 hk (hud.trans j2)⟩
      · exact Qs
  · rw [List.take_of_length_le (by omega)] at i2
    repeat' ((conv => whnf) <;> (first | refine Must.mk (fun h => h) ?_ | refine Must.mk (fun _ => rfl) ?_ | refine Must.mk Qw ?_ | refine MW.ok Qw ?_ | intro _ | exact Fin.pure rfl | refine Br.tt ?_ | refine Br.ff ?_ | (refine Br.mk (fun h => ?_) (fun h => ?_) <;> (try simp only [sh] at h) <;> (try first | (exfalso; omega) | exact absurd trivial h | (exfalso; simp at h; done))) | refine Ix.at ‹_› Qw ?_ | refine Ix.mapN Qw ?_ | refine Ix.mapN1 Qw ?_ | refine Ix.map Qw ?_ | refine Ix.at Qi Qw ?_ | refine lB (T := tab) ?_ | refine lBA (T := tab) ?_ | refine LK.askW rfl ?_ | refine s1 ?_ | refine sA ?_ | refine CK.any false Qk ?_ | fail))
    conv => whnf
    exact .out _ (by exact Qs) ⟨congrArg B i2.symm, rfl⟩
set_option maxRecDepth 4000 in
set_option maxHeartbeats 4000000 in
theorem uRestl_ok {c : Ctx} {L : List Ent} {i g : Nat} {p : Pl} {bd : Int} {log : List Sg} {cur : Int} (hL : L[i]? = some (Ck g p bd log cur)) (mine : List Nat) (h : GOk p mine) :
    FnL Tryz.prog c 98 [pt g, .sl 1 (mine.map Jn)] L fun r L' => r = B (restA p mine) ∧ L' = L := by
  refine FnL.same hL fun R => ?_
  have hl := h.l
  have hV := validP_iff.1 h.v
  have h24 := hV.2.1
  have hlm : (mine.map Jn).length = mine.length := by simp
  have hld : (p.duties.map duav).length = p.duties.length := by simp
  refine fnL_run (T := tab) Tryz.func98 rfl Tryz.ntmps98 rfl Tryz.results98 (fun _ hw0 => ?_)
  repeat' ((conv => whnf) <;> (first | refine Must.mk (fun h => h) ?_ | refine Must.mk (fun _ => rfl) ?_ | refine Must.mk Qw ?_ | refine MW.ok Qw ?_ | intro _ | exact Fin.pure rfl | refine Br.tt ?_ | refine Br.ff ?_ | (refine Br.mk (fun h => ?_) (fun h => ?_) <;> (try simp only [sh] at h) <;> (try first | (exfalso; omega) | exact absurd trivial h | (exfalso; simp at h; done))) | refine Ix.at ‹_› Qw ?_ | refine Ix.mapN Qw ?_ | refine Ix.mapN1 Qw ?_ | refine Ix.map Qw ?_ | refine Ix.at Qi Qw ?_ | refine lB (T := tab) ?_ | refine lBA (T := tab) ?_ | refine LK.askW rfl ?_ | refine s1 ?_ | refine sA ?_ | refine CK.any false Qk ?_ | fail))
  (conv => whnf); refine CK.loopK [4, 5, 6, 8, 11, 12, 13, 14, 15, 16, 17, 18, 19, 20, 21, 22, 23, 24, 25, 26, 27, 28, 29, 30, 31, 32, 33, 34, 35, 36, 37, 38, 39, 40, 41, 42, 43, 44, 45, 46, 47, 48, 49, 50] (σ := Nat) (fun k => k ≤ mine.length ∧ restA p mine = restA p (mine.drop k)) (fun k => [(11, I k)]) (fun _ => []) _ (fun k => mine.length - k) 0 ⟨Nat.zero_le _, rfl⟩ Qy (List.Sublist.refl _) ?_
  conv => whnf
  rintro k ⟨i1, i2⟩
  by_cases hk : k < mine.length
  · have hk1 := h.m _ (gAt hk)
    have hdm : ((mine.map Jn).drop (k + 1)).length = mine.length - (k + 1) := by simp
    have htn : ((k : Int) + 1).toNat = k + 1 := by omega
    have hsee : ∀ L, Sb L (.sl 1 ((mine.map Jn).drop ((k : Int) + 1).toNat)) (.sl 1 ((mine.drop (k + 1)).map Jn)) := fun L => by rw [htn, ← List.map_drop]; exact Sb.refl _
    have hdn : ((mine.map Jn).drop ((k : Int) + 1).toNat).length = mine.length - (k + 1) := by rw [htn]; exact hdm
    have hmd : ∀ d ∈ mine.drop (k + 1), d < p.duties.length := fun d hd => h.m d (List.mem_of_mem_drop hd)
    have hdl2 : ((mine.drop (k + 1)).map Jn).length = (mine.drop (k + 1)).length := by simp
    have hdr : restA p (mine.drop k) = ((mine.drop (k + 1)).any (restB p (mine.getD k default)) || restA p (mine.drop (k + 1))) := by
      rw [dropG hk, restA]
    have hdl : (mine.drop (k + 1)).length = mine.length - (k + 1) := by simp
    generalize hml : mine.drop (k + 1) = ml at *
    repeat' ((conv => whnf) <;> (first | refine Must.mk (fun h => h) ?_ | refine Must.mk (fun _ => rfl) ?_ | refine Must.mk Qw ?_ | refine MW.ok Qw ?_ | intro _ | exact Fin.pure rfl | refine Br.tt ?_ | refine Br.ff ?_ | (refine Br.mk (fun h => ?_) (fun h => ?_) <;> (try simp only [sh] at h) <;> (try first | (exfalso; omega) | exact absurd trivial h | (exfalso; simp at h; done))) | refine Ix.at ‹_› Qw ?_ | refine Ix.mapN Qw ?_ | refine Ix.mapN1 Qw ?_ | refine Ix.map Qw ?_ | refine Ix.at Qi Qw ?_ | refine lB (T := tab) ?_ | refine lBA (T := tab) ?_ | refine LK.askW rfl ?_ | refine s1 ?_ | refine sA ?_ | refine CK.any false Qk ?_ | fail))
    conv => whnf
    refine CK.see 19 rfl (hsee _) ?_
    (conv => whnf); refine CK.loopK [4, 8, 21, 22, 23, 24, 25, 26, 27, 28, 29, 30, 31, 32, 33, 34, 35, 36, 37, 38, 39, 40, 41, 42, 43, 44, 45, 46, 47, 48, 49] (σ := Nat) (fun s => s ≤ ml.length ∧ (ml.take s).any (restB p (mine.getD k default)) = false) (fun j => [(21, I j)]) (fun _ => []) _ (fun s => ml.length - s) 0 ⟨Nat.zero_le _, rfl⟩ Qy (List.Sublist.refl _) ?_
    conv => whnf
    rintro j ⟨j1, j2⟩
    by_cases hj : j < ml.length
    · have c1 := hRest_ok (p.duties.getD (mine.getD k default) default) (p.duties.getD (ml.getD j default) default)
      have hmj := hmd _ (gAt hj)
      have hrb : restB p (mine.getD k default) (ml.getD j default) = decide (restR (p.duties.getD (mine.getD k default) default) (p.duties.getD (ml.getD j default) default) < p.lim.rest) := rfl
      repeat' ((conv => whnf) <;> (first | refine Must.mk (fun h => h) ?_ | refine Must.mk (fun _ => rfl) ?_ | refine Must.mk Qw ?_ | refine MW.ok Qw ?_ | intro _ | exact Fin.pure rfl | refine Br.tt ?_ | refine Br.ff ?_ | (refine Br.mk (fun h => ?_) (fun h => ?_) <;> (try simp only [sh] at h) <;> (try first | (exfalso; omega) | exact absurd trivial h | (exfalso; simp at h; done))) | refine Ix.at ‹_› Qw ?_ | refine Ix.mapN Qw ?_ | refine Ix.mapN1 Qw ?_ | refine Ix.map Qw ?_ | refine Ix.at Qi Qw ?_ | refine LK.callA ent122 (c1) rfl rfl (SbL.refl _) ?_ | refine Ask.callA ent122 (fun h => c1) rfl rfl (SbL.refl _) ?_ | refine LK.callA ent122 (c1) rfl rfl Ql ?_ | refine Ask.callA ent122 (fun h => c1) rfl rfl Ql ?_ | refine lB (T := tab) ?_ | refine lBA (T := tab) ?_ | refine LK.askW rfl ?_ | refine s1 ?_ | refine sA ?_ | refine CK.any false Qk ?_ | fail))
      · conv => whnf
        refine .out _ (by exact Qs) ⟨?_, rfl⟩
        refine congrArg B ?_
        rw [i2, hdr, any_at hj (by rw [hrb]; exact decide_eq_true h), Bool.true_or]
      · (conv => whnf); (refine Nxt.of (j + 1) [4, 8, 21, 22, 23, 24, 25, 26, 27, 28, 29, 30, 31, 32, 33, 34, 35, 36, 37, 38, 39, 40, 41, 42, 43, 44, 45, 46, 47, 48, 49] Qr Qr Qr ?_ ?_ Qy ?_ <;> (try dsimp only) <;> (try omega))
        · exact ⟨hj, any_take j2 hj (by rw [hrb]; exact decide_eq_false (by omega))⟩
        · exact Qs
    · rw [List.take_of_length_le (by omega)] at j2
      repeat' ((conv => whnf) <;> (first | (refine Nxt.of (k + 1) [4, 5, 6, 8, 11, 12, 13, 14, 15, 16, 17, 18, 19, 20, 21, 22, 23, 24, 25, 26, 27, 28, 29, 30, 31, 32, 33, 34, 35, 36, 37, 38, 39, 40, 41, 42, 43, 44, 45, 46, 47, 48, 49, 50] Qr Qr Qr ?_ ?_ Qy ?_ <;> (try dsimp only) <;> (try omega)) | refine Must.mk (fun h => h) ?_ | refine Must.mk (fun _ => rfl) ?_ | refine Must.mk Qw ?_ | refine MW.ok Qw ?_ | intro _ | exact Fin.pure rfl | refine Br.tt ?_ | refine Br.ff ?_ | (refine Br.mk (fun h => ?_) (fun h => ?_) <;> (try simp only [sh] at h) <;> (try first | (exfalso; omega) | exact absurd trivial h | (exfalso; simp at h; done))) | refine Ix.at ‹_› Qw ?_ | refine Ix.mapN Qw ?_ | refine Ix.mapN1 Qw ?_ | refine Ix.map Qw ?_ | refine Ix.at Qi Qw ?_ | refine lB (T := tab) ?_ | refine lBA (T := tab) ?_ | refine LK.askW rfl ?_ | refine s1 ?_ | refine sA ?_ | refine CK.any false Qk ?_ | fail))
      · refine ⟨hk, ?_⟩
        rw [hml, i2, hdr, j2, Bool.false_or]
      · exact Qs
  · rw [List.drop_eq_nil_of_le (by omega), restA] at i2
    repeat' ((conv => whnf) <;> (first | refine Must.mk (fun h => h) ?_ | refine Must.mk (fun _ => rfl) ?_ | refine Must.mk Qw ?_ | refine MW.ok Qw ?_ | intro _ | exact Fin.pure rfl | refine Br.tt ?_ | refine Br.ff ?_ | (refine Br.mk (fun h => ?_) (fun h => ?_) <;> (try simp only [sh] at h) <;> (try first | (exfalso; omega) | exact absurd trivial h | (exfalso; simp at h; done))) | refine Ix.at ‹_› Qw ?_ | refine Ix.mapN Qw ?_ | refine Ix.mapN1 Qw ?_ | refine Ix.map Qw ?_ | refine Ix.at Qi Qw ?_ | refine lB (T := tab) ?_ | refine lBA (T := tab) ?_ | refine LK.askW rfl ?_ | refine s1 ?_ | refine sA ?_ | refine CK.any false Qk ?_ | fail))
    conv => whnf
    exact .out _ (by exact Qs) ⟨congrArg B i2.symm, rfl⟩
end Go.Proofs.YthjllgabmgkocaaGreat
