/-
  Walks: package roster: Prepare.
  Conditions: those of each theorem.
-/
import Derived.Test.YtjfnkmlnbaianaaGreatRO6
import Derived.Test.YtjfnkmlnbaianaaGreatSM
import Derived.Test.YtjfnkmlnbaianaaGreatE5E
namespace Go.Proofs.YtjfnkmlnbaianaaGreat
open Go.E2 Go.Wage
theorem oPrep_no (p : Pl) (hs : Small p) (hv : validP p = false) : FnA Tryz.prog 35 [.agg (pcs p)] (.tup [.v (.pointer none), B false]) := by
 have c1 := oValid_ok p hs
 rw [hv] at c1
 refine fn_run (T := tab) Tryz.func35 rfl Tryz.ntmps35 rfl Tryz.results35 (fun _ => ?_)
 repeat' ((conv => whnf) <;> (first | refine zM ?_ | refine zW ?_ | intro _ | exact zF | refine Fin.pure ?_ | refine Br.tt ?_ | refine Br.ff ?_ | (refine Br.mk (fun h => ?_) (fun h => ?_) <;> (try simp only [sh] at h) <;> try first | (exfalso; omega) | exact absurd trivial h | (simp at h; done)) | refine zA ?_ | refine zN ?_ | refine zO ?_ | refine zP ?_ | refine zB ?_ | refine zL ent58 c1 ?_ | refine zG ent58 (fun h => c1) ?_ | refine lB ?_ | refine lBA ?_ | refine zK ?_ | refine s1 ?_ | refine sA ?_ | refine zC ?_ | fail))
theorem take_mapO {α β : Type} [Inhabited α] {f : α → β} {l : List α} {k : Nat} (h : k < l.length) : (l.take (k + 1)).map f = (l.take k).map f ++ [f (l.getD k default)] := by
 rw [List.take_succ_eq_append_getElem h, List.map_append, getD_at h]
 rfl
set_option maxRecDepth 4000 in
set_option maxHeartbeats 8000000 in
theorem oPrep_raw (p : Pl) (hs : Small p) (hv : validP p = true) : FnE Tryz.prog 35 [.agg (pcs p)] fun r E => ∃ bc v1 v2 v3, r = .tup [.v (.pointer (some ⟨bc, 0, none⟩)), B true] ∧ E = [.row v3 82 1 0 false (p.workers.map fun w => AV.sl 1 (p.duties.map fun d => B (awB w d))), .row v1 106 1 0 false (p.duties.map fun d => AV.sl 2 ((minsD p d).map ptav)), .row v2 3 1 0 false (p.duties.map fun d => I (nightD p d)), .blk bc 130 false [.v (.string p.zone.name), I p.zone.base, .sl 2 (p.zone.chs.map chav), .sl 3 (p.duties.map duav), .sl 5 (p.workers.map wkav), I p.lim.rest, I p.lim.week, I p.lim.night.1, I p.lim.night.2, I p.lim.minor, .v v1, .v v2, .v v3, .sl 1 kinds]] := by
 have c1 := oValid_ok p hs
 rw [hv] at c1
 have hV := validP_iff.1 hv
 have hlim : 0 ≤ p.lim.night.1 ∧ p.lim.night.1 ≤ 1440 ∧ 0 ≤ p.lim.night.2 ∧ p.lim.night.2 ≤ 1440 := by
  have := hV.2.2.2.2.2
  unfold limOk inB at this
  simp only [Bool.and_eq_true, decide_eq_true_eq] at this
  omega
 have hld : (p.duties.map duav).length = p.duties.length := by simp
 have hlw : (p.workers.map wkav).length = p.workers.length := by simp
 have hsd := hs.du
 have hsw := hs.wk
 have h24 := hV.2.1
 have h12 := hV.2.2.1
 refine fn_run (T := tab) Tryz.func35 rfl Tryz.ntmps35 rfl Tryz.results35 (fun _ => ?_)
 repeat' ((conv => whnf) <;> (first | refine LK.gr (Gr.mkIface ⟨_, Tryz.underlying126⟩ rfl rfl) ?_ | refine LK.gr (Gr.mkIface ⟨_, Tryz.underlying125⟩ rfl rfl) ?_ | refine LK.gr (Gr.mkIface ⟨_, Tryz.underlying124⟩ rfl rfl) ?_ | refine LK.gr (Gr.mkIface ⟨_, Tryz.underlying123⟩ rfl rfl) ?_ | refine LK.gr (Gr.mkIface ⟨_, Tryz.underlying122⟩ rfl rfl) ?_ | refine LK.gr (Gr.mkIface ⟨_, Tryz.underlying121⟩ rfl rfl) ?_ | refine zM ?_ | refine zW ?_ | intro _ | exact zF | refine Fin.pure ?_ | refine Br.tt ?_ | refine Br.ff ?_ | (refine Br.mk (fun h => ?_) (fun h => ?_) <;> (try simp only [sh] at h) <;> try first | (exfalso; omega) | exact absurd trivial h | (simp at h; done)) | refine zA ?_ | refine zN ?_ | refine zO ?_ | refine zP ?_ | refine zB ?_ | refine zL ent58 c1 ?_ | refine zG ent58 (fun h => c1) ?_ | refine lB ?_ | refine lBA ?_ | refine zK ?_ | refine s1 ?_ | refine sA ?_ | refine LK.gr (Gr.bslV rfl rfl rfl rfl) ?_ | refine Ask.of (Gr.bslV rfl rfl rfl rfl) ?_ | refine zC ?_ | refine zD ?_ | fail))
 rename_i b1 bc
 conv => whnf
 refine CK.nilrow 3 1 ?_
 refine CK.nilrow 106 1 ?_
 (conv => whnf); refine CK.loopK [6, 7, 8, 9, 10, 38, 39, 40, 41, 42, 43, 44, 45, 46, 47, 48, 49, 50, 51, 52, 53, 54, 55, 56, 57, 58, 59, 60, 61, 62, 63, 64, 65, 66, 67, 68, 69, 70, 71, 72, 73, 74, 75, 76, 77, 78, 79] (σ := Nat × Value × Value) (fun s => s.1 ≤ p.duties.length) (fun ⟨k, _⟩ => [(38, I k)]) (fun ⟨k, v1, v2⟩ => [.row v1 106 1 0 false ((p.duties.take k).map fun d => AV.sl 2 ((minsD p d).map ptav)), .row v2 3 1 0 false ((p.duties.take k).map fun d => I (nightD p d)), .blk bc 130 false [.v (.string p.zone.name), I p.zone.base, .sl 2 (p.zone.chs.map chav), .sl 3 (p.duties.map duav), .sl 5 (p.workers.map wkav), I p.lim.rest, I p.lim.week, I p.lim.night.1, I p.lim.night.2, I p.lim.minor, .v v1, .v v2, .v (.slice none 0 0), .sl 1 kinds]]) _ (fun s => p.duties.length - s.1) (0, .slice none 0 0, .slice none 0 0) (Nat.zero_le _) Qy (List.Sublist.refl _) ?_
 conv => whnf
 rintro ⟨k, v1, v2⟩ i1
 simp only at i1
 by_cases hk : k < p.duties.length
 ·have hdk := List.all_eq_true.1 hV.2.2.2.1 _ (getD_mem hk)
  have c2 := hMinutes_ok p (p.duties.getD k default) hV.1
  rw [if_pos hdk, if_pos hdk] at c2
  have hdk2 := hdk
  unfold dutyOk at hdk2
  have c3 := hNight_ok p (p.duties.getD k default) hV.1 (Bool.and_eq_true_iff.1 hdk2).1 hlim
  have e1 := take_mapO (f := fun d => AV.sl 2 ((minsD p d).map ptav)) hk
  have e2 := take_mapO (f := fun d => I (nightD p d)) hk
  have e3 : (p.duties.take k).length = k := by rw [List.length_take]; omega
  repeat' ((conv => whnf) <;> (first | refine zM ?_ | refine zW ?_ | intro _ | exact zF | refine Fin.pure ?_ | refine Br.tt ?_ | refine Br.ff ?_ | (refine Br.mk (fun h => ?_) (fun h => ?_) <;> (try simp only [sh] at h) <;> try first | (exfalso; omega) | exact absurd trivial h | (simp at h; done)) | refine zA ?_ | refine zN ?_ | refine zO ?_ | refine zP ?_ | refine zB ?_ | refine zL ent59 c2 ?_ | refine zG ent59 (fun h => c2) ?_ | refine zL ent60 c3 ?_ | refine zG ent60 (fun h => c3) ?_ | refine lB ?_ | refine lBA ?_ | refine zK ?_ | refine s1 ?_ | refine sA ?_ | refine pS ?_ | refine LK.gr (Gr.bslV rfl rfl rfl rfl) ?_ | refine Ask.of (Gr.bslV rfl rfl rfl rfl) ?_ | refine zC ?_ | refine zD ?_ | fail))
  rename_i A B C A2 B2 C2
  (conv => whnf); (refine Nxt.of ((k + 1, Value.slice A B C, Value.slice A2 B2 C2)) [6, 7, 8, 9, 10, 38, 39, 40, 41, 42, 43, 44, 45, 46, 47, 48, 49, 50, 51, 52, 53, 54, 55, 56, 57, 58, 59, 60, 61, 62, 63, 64, 65, 66, 67, 68, 69, 70, 71, 72, 73, 74, 75, 76, 77, 78, 79] Qr Qr Qr ?_ ?_ Qy ?_ <;> (try dsimp only) <;> (try omega))
  rw [e1, e2]
  exact Qs
 ·have ek : p.duties.take k = p.duties := List.take_of_length_le (by omega)
  repeat' ((conv => whnf) <;> (first | refine zM ?_ | refine zW ?_ | intro _ | exact zF | refine Br.tt ?_ | refine Br.ff ?_ | (refine Br.mk (fun h => ?_) (fun h => ?_) <;> (try simp only [sh] at h) <;> try first | (exfalso; omega) | exact absurd trivial h | (simp at h; done)) | refine zA ?_ | refine zN ?_ | refine zO ?_ | refine zP ?_ | refine zB ?_ | refine lB ?_ | refine lBA ?_ | refine zK ?_ | refine s1 ?_ | refine sA ?_ | refine zC ?_ | fail))
  conv => whnf
  dsimp only
  rw [ek]
  refine CK.nilrow 82 1 ?_
  (conv => whnf); refine CK.loopK [12, 13, 14, 15, 83, 84, 85, 86, 87, 88, 89, 90, 91, 92, 93, 94, 95, 96, 97, 98, 99, 100, 101, 102, 103, 104, 105, 106, 107, 108, 109, 110, 111, 112, 113, 114, 115, 116, 117, 118, 119, 120, 121, 122, 123, 124] (σ := Nat × Value) (fun s => s.1 ≤ p.workers.length) (fun ⟨j, _⟩ => [(83, I j)]) (fun ⟨j, v3⟩ => [.row v3 82 1 0 false ((p.workers.take j).map fun w => AV.sl 1 (p.duties.map fun d => B (awB w d))), .row v1 106 1 0 false (p.duties.map fun d => AV.sl 2 ((minsD p d).map ptav)), .row v2 3 1 0 false (p.duties.map fun d => I (nightD p d)), .blk bc 130 false [.v (.string p.zone.name), I p.zone.base, .sl 2 (p.zone.chs.map chav), .sl 3 (p.duties.map duav), .sl 5 (p.workers.map wkav), I p.lim.rest, I p.lim.week, I p.lim.night.1, I p.lim.night.2, I p.lim.minor, .v v1, .v v2, .v v3, .sl 1 kinds]]) _ (fun s => p.workers.length - s.1) (0, .slice none 0 0) (Nat.zero_le _) Qy (List.Sublist.refl _) ?_
  conv => whnf
  rintro ⟨j, v3⟩ m1
  simp only at m1
  by_cases hj : j < p.workers.length
  ·have e1 := take_mapO (f := fun w => AV.sl 1 (p.duties.map fun d => B (awB w d))) hj
   have e3 : (p.workers.take j).length = j := by rw [List.length_take]; omega
   have haw := hs.aw _ (getD_mem hj)
   repeat' ((conv => whnf) <;> (first | (refine LK.eff (Eff.mkS (T := tab) (N := p.duties.length) (z := .bool false) rfl rfl rfl rfl (congrArg (fun q : Nat => some (I (q : Int))) hld) (by omega)) ?_ <;> rintro _ _ ⟨A, B', C, rfl, rfl⟩) | refine zM ?_ | refine zW ?_ | intro _ | exact zF | refine Fin.pure ?_ | refine Br.tt ?_ | refine Br.ff ?_ | (refine Br.mk (fun h => ?_) (fun h => ?_) <;> (try simp only [sh] at h) <;> try first | (exfalso; omega) | exact absurd trivial h | (simp at h; done)) | refine zA ?_ | refine zN ?_ | refine zO ?_ | refine zP ?_ | refine zB ?_ | refine lB ?_ | refine lBA ?_ | refine zK ?_ | refine s1 ?_ | refine sA ?_ | refine LK.gr (Gr.bslV rfl rfl rfl rfl) ?_ | refine Ask.of (Gr.bslV rfl rfl rfl rfl) ?_ | refine zC ?_ | refine zD ?_ | fail))
   (conv => whnf); refine CK.loopK [14, 15, 94, 95, 96, 97, 98, 99, 100, 101, 102, 103, 104, 105, 106, 107, 108, 109, 110, 111, 112, 113] (σ := Nat × List Bool) (fun s => s.1 ≤ p.duties.length ∧ s.2 = (p.duties.take s.1).map (awB (p.workers.getD j default)) ++ List.replicate (p.duties.length - s.1) false) (fun ⟨i, _⟩ => [(94, I i)]) (fun ⟨_, bs⟩ => [.row (.slice A B' C) 4 1 0 false (bs.map B)]) _ (fun s => p.duties.length - s.1) (0, List.replicate p.duties.length false) ⟨Nat.zero_le _, by simp⟩ Qy (by dsimp only; rw [List.map_replicate]; exact Qs) ?_
   conv => whnf
   rintro ⟨i, bs⟩ ⟨n1, n2⟩
   simp only at n1 n2
   by_cases hi : i < p.duties.length
   ·have c5 := sMeet_ok (p.workers.getD j default).away ((p.duties.getD i default).frm, (p.duties.getD i default).to_) (by omega)
    have hbl : bs.length = p.duties.length := by rw [n2]; simp; omega
    have hbl2 : (bs.map B).length = p.duties.length := by simp [hbl]
    repeat' ((conv => whnf) <;> (first | refine zM ?_ | refine zW ?_ | intro _ | exact zF | refine Fin.pure ?_ | refine Br.tt ?_ | refine Br.ff ?_ | (refine Br.mk (fun h => ?_) (fun h => ?_) <;> (try simp only [sh] at h) <;> try first | (exfalso; omega) | exact absurd trivial h | (simp at h; done)) | refine zA ?_ | refine zN ?_ | refine zO ?_ | refine zP ?_ | refine zB ?_ | (refine LK.call ent61 (c5) rfl rfl Ql (fun _ _ hcall => ?_) <;> obtain ⟨rfl, m, rfl, hm⟩ := hcall) | refine lB ?_ | refine lBA ?_ | refine lM ?_ | refine lM0 ?_ | refine lMA ?_ | refine sM ?_ | refine zK ?_ | refine s1 ?_ | refine sA ?_ | refine LK.gr (Gr.bslV rfl rfl rfl rfl) ?_ | refine Ask.of (Gr.bslV rfl rfl rfl rfl) ?_ | refine zC ?_ | refine zD ?_ | fail))
    have hm2 : decide (0 < (((m.map spav).length : Nat) : Int)) = awB (p.workers.getD j default) (p.duties.getD i default) := by
     rw [List.length_map]
     refine Eq.trans ?_ hm
     rw [decide_eq_decide]
     omega
    have hset : bs.set i (awB (p.workers.getD j default) (p.duties.getD i default)) = (p.duties.take (i + 1)).map (awB (p.workers.getD j default)) ++ List.replicate (p.duties.length - (i + 1)) false := by
     have e5 : p.duties.length - i = p.duties.length - (i + 1) + 1 := by omega
     rw [n2, take_mapO hi, List.set_append_right _ _ (by simp; omega), e5, List.replicate_succ]
     simp only [List.length_map, List.length_take, Nat.min_eq_left n1, Nat.sub_self, List.set_cons_zero, List.append_assoc, List.singleton_append]
    have hst : (bs.map B).set (i : Int).toNat ((B (bs.getD (i : Int).toNat default)).setCell 0 (B (decide (0 < (((m.map spav).length : Nat) : Int))))) = (bs.set i (awB (p.workers.getD j default) (p.duties.getD i default))).map B := by
     rw [List.map_set, Int.toNat_natCast, ← hm2]
     rfl
    repeat' ((conv => whnf) <;> (first | refine LK.stRM (a := (i : Int).toNat) (j := 0) 1 rfl rfl rfl rfl rfl (Nat.zero_le _) (by omega) rfl rfl ?_ | refine Ask.idxR (T := tab) 1 rfl rfl rfl rfl Qw ?_ | refine zM ?_ | refine zW ?_ | intro _ | exact zF | refine Fin.pure ?_ | refine Br.tt ?_ | refine Br.ff ?_ | (refine Br.mk (fun h => ?_) (fun h => ?_) <;> (try simp only [sh] at h) <;> try first | (exfalso; omega) | exact absurd trivial h | (simp at h; done)) | refine zA ?_ | refine zN ?_ | refine zO ?_ | refine zP ?_ | refine zB ?_ | refine lB ?_ | refine lBA ?_ | refine lM ?_ | refine lM0 ?_ | refine lMA ?_ | refine sM ?_ | refine zK ?_ | refine s1 ?_ | refine sA ?_ | refine zC ?_ | fail))
    (conv => whnf); (refine Nxt.of ((i + 1, bs.set i (awB (p.workers.getD j default) (p.duties.getD i default)))) [14, 15, 94, 95, 96, 97, 98, 99, 100, 101, 102, 103, 104, 105, 106, 107, 108, 109, 110, 111, 112, 113] Qr Qr Qr ?_ ?_ Qy ?_ <;> (try dsimp only) <;> (try omega))
    ·exact ⟨hi, hset⟩
    ·rw [← hst]
     exact Qs
   ·rw [List.take_of_length_le (by omega), show p.duties.length - i = 0 by omega, List.replicate_zero, List.append_nil] at n2
    subst n2
    repeat' ((conv => whnf) <;> (first | (refine LK.frzR 0 rfl ?_ <;> refine LK.see 119 rfl (Sb.row 0 rfl) ?_) | refine zM ?_ | refine zW ?_ | intro _ | exact zF | refine Fin.pure ?_ | refine Br.tt ?_ | refine Br.ff ?_ | (refine Br.mk (fun h => ?_) (fun h => ?_) <;> (try simp only [sh] at h) <;> try first | (exfalso; omega) | exact absurd trivial h | (simp at h; done)) | refine zA ?_ | refine zN ?_ | refine zO ?_ | refine zP ?_ | refine zB ?_ | refine lB ?_ | refine lBA ?_ | refine zK ?_ | refine s1 ?_ | refine sA ?_ | refine pS ?_ | refine LK.gr (Gr.bslV rfl rfl rfl rfl) ?_ | refine Ask.of (Gr.bslV rfl rfl rfl rfl) ?_ | refine zC ?_ | refine zD ?_ | fail))
    rename_i A2 B2 C2
    rw [List.map_map] at *
    (conv => whnf); (refine Nxt.of ((j + 1, Value.slice A2 B2 C2)) [12, 13, 14, 15, 83, 84, 85, 86, 87, 88, 89, 90, 91, 92, 93, 94, 95, 96, 97, 98, 99, 100, 101, 102, 103, 104, 105, 106, 107, 108, 109, 110, 111, 112, 113, 114, 115, 116, 117, 118, 119, 120, 121, 122, 123, 124] Qr Qr Qr ?_ ?_ Qy ?_ <;> (try dsimp only) <;> (try omega))
    rw [e1]
    exact Qs
  ·have ej : p.workers.take j = p.workers := List.take_of_length_le (by omega)
   repeat' ((conv => whnf) <;> (first | refine zM ?_ | refine zW ?_ | intro _ | exact zF | refine Br.tt ?_ | refine Br.ff ?_ | (refine Br.mk (fun h => ?_) (fun h => ?_) <;> (try simp only [sh] at h) <;> try first | (exfalso; omega) | exact absurd trivial h | (simp at h; done)) | refine zA ?_ | refine zN ?_ | refine zO ?_ | refine zP ?_ | refine zB ?_ | refine lB ?_ | refine lBA ?_ | refine zK ?_ | refine s1 ?_ | refine sA ?_ | refine zC ?_ | fail))
   conv => whnf
   dsimp only
   rw [ej]
   exact .out _ (List.sublist_append_left _ _) ⟨bc, v1, v2, v3, rfl, rfl⟩
theorem FnE.turn {P : Program} {f : FuncId} {args : List AV} {Φ Ψ : AV → List Ent → Prop} (h : FnE P f args Φ) (hm : ∀ a E, Φ a E → ∃ a' E', Ψ a' E' ∧ ∀ c H w, St c H w E → ∃ H', H.le H' ∧ St c H' w E' ∧ ∀ v, Rel H' a v → Rel H' a' v) : FnE P f args Ψ :=
 ⟨fun H w vs hi hr => Calls.mono (h.out H w vs hi hr) fun _ _ ⟨v, a, H', E, he, hp, hs, hst⟩ => by
  obtain ⟨a', E', h1, h2⟩ := hm a E hp
  obtain ⟨H2, l2, s2, r2⟩ := h2 _ _ _ hst
  exact ⟨v, a', H2, E', he, h1, r2 v (hs.mono l2), s2⟩⟩
theorem oPrep_ok (p : Pl) (hs : Small p) (hv : validP p = true) : FnA Tryz.prog 35 [.agg (pcs p)] (.tup [.fp (ccs p) 0, B true]) := by
 refine FnE.turn (oPrep_raw p hs hv) ?_
 rintro _ _ ⟨bc, v1, v2, v3, rfl, rfl⟩
 refine ⟨_, [], ⟨rfl, rfl⟩, fun c H w h0 => ?_⟩
 obtain ⟨H1, l1, s1⟩ := h0.freezeRow (i := 0) rfl
 obtain ⟨H2, l2, s2⟩ := s1.freezeRow (i := 1) rfl
 obtain ⟨H3, l3, s3⟩ := s2.freezeRow (i := 2) rfl
 have s4 := s3.seeB (i := 3) (off := 12) rfl rfl (Sb.row 0 rfl)
 have s5 := s4.seeB (i := 3) (off := 10) rfl rfl (Sb.row 1 rfl)
 have s6 := s5.seeB (i := 3) (off := 11) rfl rfl (Sb.row 2 rfl)
 obtain ⟨H7, l7, s7, _⟩ := s6.freezeBlk (i := 3) rfl
 exact ⟨H7, ((l1.trans l2).trans l3).trans l7, s7.sub (List.nil_sublist _), fun v hr => Sb.rel s7 (.tup (.cons (.ptr 3 rfl) (.cons (.refl _) .nil))) hr⟩
end Go.Proofs.YtjfnkmlnbaianaaGreat
