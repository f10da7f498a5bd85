/-
  Walks: package roster: the order of violations, Bad, Cost.
  Conditions: those of each theorem.
-/
import Derived.Test.YtjfnkmlnbaianaaGreatRO7
import Derived.Test.YtjfnkmlnbaianaaGreatZV
namespace Go.Proofs.YtjfnkmlnbaianaaGreat
open Go.E2 Go.Wage Go.Sort
def orI : List Int → Int
 | [] => 0
 | x :: l => if x = 0 then orI l else x
theorem orI_at : ∀ {l : List Int} {k : Nat}, (∀ y ∈ l.take k, y = 0) → orI l = orI (l.drop k)
 | _, 0, _ => by simp
 | [], k + 1, _ => by simp
 | x :: l, k + 1, h => by
  have h1 := h x (by simp)
  rw [orI, if_pos h1, List.drop_succ_cons]
  exact orI_at fun y hy => h y (by simp [hy])
theorem cmpOr_ok (l : List Int) (hl : l.length ≤ 1000) : FnA Tryz.prog 51 [.sl 1 (l.map I)] (I (orI l)) := by
 have hll : (l.map I).length = l.length := by simp
 refine fn_run (T := tab) Tryz.func51 rfl Tryz.ntmps51 rfl Tryz.results51 (fun _ => ?_)
 repeat' ((conv => whnf) <;> (first | refine zM ?_ | refine zW ?_ | intro _ | exact zF | refine Fin.pure ?_ | refine Br.tt ?_ | refine Br.ff ?_ | (refine Br.mk (fun h => ?_) (fun h => ?_) <;> (try simp only [sh] at h) <;> try first | (exfalso; omega) | exact absurd trivial h | (simp at h; done)) | refine zA ?_ | refine zN ?_ | refine zO ?_ | refine zP ?_ | refine zB ?_ | refine lB ?_ | refine lBA ?_ | refine zK ?_ | refine s1 ?_ | refine sA ?_ | refine zC ?_ | fail))
 (conv => whnf); refine CK.loop [2, 5, 8, 9, 10, 11, 12, 13, 14, 15, 16] (σ := Nat) (fun k => k ≤ l.length ∧ ∀ y ∈ l.take k, y = 0) (fun k => [(8, I k)]) (fun _ => []) (fun k => l.length - k) 0 ⟨Nat.zero_le _, by simp⟩ Qy (List.nil_sublist _) ?_
 conv => whnf
 rintro k ⟨i1, i2⟩
 by_cases hk : k < l.length
 ·repeat' ((conv => whnf) <;> (first | (refine Nxt.of (k + 1) [2, 5, 8, 9, 10, 11, 12, 13, 14, 15, 16] Qr Qr Qr ?_ ?_ Qy Qs <;> (try dsimp only) <;> (try omega)) | refine zM ?_ | refine zW ?_ | intro _ | exact zF | refine Fin.pure ?_ | refine Br.tt ?_ | refine Br.ff ?_ | (refine Br.mk (fun h => ?_) (fun h => ?_) <;> (try simp only [sh] at h) <;> try first | (exfalso; omega) | exact absurd trivial h | (simp at h; done)) | refine zA ?_ | refine zN ?_ | refine zO ?_ | refine zP ?_ | refine zB ?_ | refine lB ?_ | refine lBA ?_ | refine zK ?_ | refine s1 ?_ | refine sA ?_ | refine zC ?_ | fail))
  ·refine congrArg I ?_
   rw [orI_at i2, List.drop_eq_getElem_cons hk, ← getD_at hk, orI, if_neg h]
  ·refine ⟨hk, fun y hy => ?_⟩
   rw [List.take_succ_eq_append_getElem hk, List.mem_append, ← getD_at hk, List.mem_singleton] at hy
   rcases hy with hy | hy
   ·exact i2 y hy
   ·rw [hy]; exact h
 ·repeat' ((conv => whnf) <;> (first | refine zM ?_ | refine zW ?_ | intro _ | exact zF | refine Fin.pure ?_ | refine Br.tt ?_ | refine Br.ff ?_ | (refine Br.mk (fun h => ?_) (fun h => ?_) <;> (try simp only [sh] at h) <;> try first | (exfalso; omega) | exact absurd trivial h | (simp at h; done)) | refine zA ?_ | refine zN ?_ | refine zO ?_ | refine zP ?_ | refine zB ?_ | refine lB ?_ | refine lBA ?_ | refine zK ?_ | refine s1 ?_ | refine sA ?_ | refine zC ?_ | fail))
  refine congrArg I ?_
  rw [orI_at i2, List.drop_eq_nil_of_le (by omega)]; rfl
def cmpV (a b : Vi) : Int := orI [cmpI a.kind b.kind, cmpI a.wk b.wk, cmpI a.fst b.fst, cmpI a.snd b.snd]
set_option maxHeartbeats 4000000 in
theorem oBad1_ok (a b : Vi) : FnA Tryz.prog 50 ([viav a, viav b] ++ []) (I (cmpV a b)) := by
 have c1 := cmpi_ok a.kind b.kind
 have c2 := cmpi_ok a.wk b.wk
 have c3 := cmpi_ok a.fst b.fst
 have c4 := cmpi_ok a.snd b.snd
 have c5 := cmpOr_ok [cmpI a.kind b.kind, cmpI a.wk b.wk, cmpI a.fst b.fst, cmpI a.snd b.snd] (by simp)
 refine fn_run (T := tab) Tryz.func50 rfl Tryz.ntmps50 rfl Tryz.results50 (fun _ => ?_)
 repeat' ((conv => whnf) <;> (first | refine zM ?_ | refine zW ?_ | intro _ | exact zF | refine Fin.pure ?_ | refine Br.tt ?_ | refine Br.ff ?_ | (refine Br.mk (fun h => ?_) (fun h => ?_) <;> (try simp only [sh] at h) <;> try first | (exfalso; omega) | exact absurd trivial h | (simp at h; done)) | refine zA ?_ | refine zN ?_ | refine zO ?_ | refine zP ?_ | refine zB ?_ | refine zL ent52 c1 ?_ | refine zG ent52 (fun h => c1) ?_ | refine zL ent52 c2 ?_ | refine zG ent52 (fun h => c2) ?_ | refine zL ent52 c3 ?_ | refine zG ent52 (fun h => c3) ?_ | refine zL ent52 c4 ?_ | refine zG ent52 (fun h => c4) ?_ | refine zL ent51 c5 ?_ | refine zG ent51 (fun h => c5) ?_ | refine lB ?_ | refine lBA ?_ | refine zK ?_ | refine s1 ?_ | refine sA ?_ | refine LK.gr (Gr.bslV rfl rfl rfl rfl) ?_ | refine Ask.of (Gr.bslV rfl rfl rfl rfl) ?_ | refine zC ?_ | refine zD ?_ | fail))
theorem orI_cmp (x y : Int) (l : List Int) : orI (cmpI x y :: l) < 0 ↔ x < y ∨ (x = y ∧ orI l < 0) := by
 rw [orI]
 unfold cmpI
 by_cases h : x < y
 ·simp [h]
 ·by_cases h2 : y < x
  ·simp [h, h2]; omega
  ·simp [h, h2]; omega
theorem cmpV_lt (a b : Vi) : ltOf cmpV a b = decide (ltV a b) := by
 unfold ltOf
 rw [decide_eq_decide]
 unfold cmpV ltV
 rw [orI_cmp, orI_cmp, orI_cmp, orI_cmp]
 simp only [orI, Int.lt_irrefl, and_false, or_false]
theorem swoV : SWO (ltOf cmpV) := by
 refine ⟨fun x => ?_, fun x y z => ?_, fun x y z => ?_⟩ <;> simp only [cmpV_lt, decide_eq_true_eq, decide_eq_false_iff_not]
 ·exact ltV_irr x
 ·exact fun h1 h2 => ltV_tr h1 h2
 ·unfold ltV; omega
def encV (v : Vi) : List Value := [.int .i64 v.kind, .int .i64 v.wk, .int .i64 v.fst, .int .i64 v.snd]
theorem aggV : AggT Tryz.prog 68 4 := (tab_st tabOK rfl).1
theorem sortV_ok {c : Ctx} {L : List Ent} {v : Value} {t : TypeId} {dl : List Vi} (i : Nat) (hi : L[i]? = some (.row v t 4 0 false (dl.map viav))) (hlen : dl.length < 4611686018427387904) (hn : dl.Nodup) :
  FnL Tryz.prog c 49 [.v v, .fn (.func 50) []] L fun r L' => r = .tup [] ∧ ∃ dl' : List Vi, dl'.Perm dl ∧ dl'.Pairwise ltV ∧ L' = L.set i (.row v t 4 0 false (dl'.map viav)) := by
 refine (sort_of (P := Tryz.prog) (ρ := Tryz.sortV_ren) Tryz.sortV (by decide) (fun w => run_isAgg_t aggV w) (fun w => run_sizeOf' aggV.size w) (enc := encV) (fun _ => rfl) (fun x v hv => by simp [encV] at hv; rcases hv with rfl | rfl | rfl | rfl <;> rfl) _ swoV ent50 (fun _ => rfl) oBad1_ok i hi hlen).mono ?_
 rintro a E ⟨rfl, d', h1, h2, rfl⟩
 refine ⟨rfl, d', h1, ?_, rfl⟩
 have hn' : d'.Nodup := h1.nodup_iff.2 hn
 exact (h2.and hn').imp fun {a b} h => ltV_tot (by have := h.1; rw [cmpV_lt] at this; simpa using this) h.2
set_option maxHeartbeats 4000000 in
theorem compV_ok {c : Ctx} {L : List Ent} {v : Value} (dl : List Vi) (ho : dl.Pairwise ltV) (hl : dl.length ≤ 1000000000) :
  FnL Tryz.prog c 53 [.v v] (.row v 68 4 0 false (dl.map viav) :: L) fun r L' => r = .v v ∧ L' = .row v 68 4 0 false (dl.map viav) :: L := by
 have hla : (dl.map viav).length = dl.length := by simp
 refine fnL_run (T := tab) Tryz.func53 rfl Tryz.ntmps53 rfl Tryz.results53 (fun _ hw0 => ?_)
 repeat' ((conv => whnf) <;> (first | refine zM ?_ | refine zW ?_ | intro _ | exact zF | refine Br.tt ?_ | refine Br.ff ?_ | (refine Br.mk (fun h => ?_) (fun h => ?_) <;> (try simp only [sh] at h) <;> try first | (exfalso; omega) | exact absurd trivial h | (simp at h; done)) | refine zA ?_ | refine zN ?_ | refine zO ?_ | refine zP ?_ | refine zB ?_ | refine lB ?_ | refine lBA ?_ | refine lM ?_ | refine lM0 ?_ | refine lMA ?_ | refine sM ?_ | refine nR ?_ | refine iR ?_ | refine lR ?_ | refine lR0 ?_ | refine lRA ?_ | refine zK ?_ | refine s1 ?_ | refine sA ?_ | refine LK.bsl rfl rfl rfl rfl ?_ | (refine LK.frzR 0 rfl ?_ <;> refine pF ?_) | refine pA ?_ | refine sR ?_ | refine zC ?_ | fail))
 ·conv => whnf
  exact .out _ (List.Sublist.refl _) ⟨rfl, rfl⟩
 have h2 := h
 (conv => whnf); refine CK.loopK [2, 3, 4, 5, 10, 11, 12, 13, 14, 15, 16, 17, 18, 19, 20, 21, 22, 23, 24, 25, 26, 27, 28, 29, 30, 31, 32, 33, 34, 35, 36, 37, 38, 39, 40, 41, 42, 43, 44, 45, 46, 47, 48, 49, 50, 51, 52, 53, 54, 55, 56, 57, 58, 59] (σ := Nat) (fun k => 1 ≤ k ∧ k ≤ dl.length) (fun k => [(3, I k)]) (fun _ => [.row v 68 4 0 false (dl.map viav)]) _ (fun k => dl.length - k) 1 ⟨Nat.le_refl _, by omega⟩ Qy (List.Sublist.refl _) ?_
 conv => whnf
 rintro k ⟨i1, i2⟩
 by_cases hk : k < dl.length
 ·have e1 : ((k : Int) - 1).toNat = k - 1 := by omega
  have hlt : ltV (dl.getD (k - 1) default) (dl.getD k default) := by
   rw [getD_at hk, getD_at (show k - 1 < dl.length by omega)]
   exact List.pairwise_iff_getElem.1 ho (k - 1) k (by omega) hk (by omega)
  repeat' ((conv => whnf) <;> (first | (refine Nxt.of (k + 1) [2, 3, 4, 5, 10, 11, 12, 13, 14, 15, 16, 17, 18, 19, 20, 21, 22, 23, 24, 25, 26, 27, 28, 29, 30, 31, 32, 33, 34, 35, 36, 37, 38, 39, 40, 41, 42, 43, 44, 45, 46, 47, 48, 49, 50, 51, 52, 53, 54, 55, 56, 57, 58, 59] Qr Qr Qr ?_ ?_ Qy Qs <;> (try dsimp only) <;> (try omega)) | refine zM ?_ | refine zW ?_ | intro _ | exact zF | refine Br.tt ?_ | refine Br.ff ?_ | (refine Br.mk (fun h => ?_) (fun h => ?_) <;> (try simp only [sh] at h) <;> try first | (exfalso; omega) | exact absurd trivial h | (simp at h; done)) | refine zA ?_ | refine zN ?_ | refine zO ?_ | refine zP ?_ | refine zB ?_ | refine Ask.of (Gr.eqlS rfl rfl rfl rfl (eqs47 _ _ _ _ _ _)) ?_ | refine Ask.of (Gr.neqS rfl rfl rfl rfl (eqs47 _ _ _ _ _ _)) ?_ | refine Ask.of (Gr.eqlS rfl rfl rfl rfl (eqs28 _ _ _ _)) ?_ | refine Ask.of (Gr.neqS rfl rfl rfl rfl (eqs28 _ _ _ _)) ?_ | refine Ask.of (Gr.eqlS rfl rfl rfl rfl (eqs188 _ _ _ _)) ?_ | refine Ask.of (Gr.neqS rfl rfl rfl rfl (eqs188 _ _ _ _)) ?_ | refine Ask.of (Gr.eqlS rfl rfl rfl rfl (eqs68 _ _ _ _ _ _ _ _)) ?_ | refine Ask.of (Gr.neqS rfl rfl rfl rfl (eqs68 _ _ _ _ _ _ _ _)) ?_ | refine lB ?_ | refine lBA ?_ | refine lM ?_ | refine lM0 ?_ | refine lMA ?_ | refine sM ?_ | refine nR ?_ | refine iR ?_ | refine lR ?_ | refine lR0 ?_ | refine lRA ?_ | refine zK ?_ | refine s1 ?_ | refine sA ?_ | refine LK.bsl rfl rfl rfl rfl ?_ | (refine LK.frzR 0 rfl ?_ <;> refine pF ?_) | refine pA ?_ | refine sR ?_ | refine zC ?_ | fail))
  exact absurd hlt (by unfold ltV; omega)
 ·repeat' ((conv => whnf) <;> (first | refine zM ?_ | refine zW ?_ | intro _ | exact zF | refine Br.tt ?_ | refine Br.ff ?_ | (refine Br.mk (fun h => ?_) (fun h => ?_) <;> (try simp only [sh] at h) <;> try first | (exfalso; omega) | exact absurd trivial h | (simp at h; done)) | refine zA ?_ | refine zN ?_ | refine zO ?_ | refine zP ?_ | refine zB ?_ | refine lB ?_ | refine lBA ?_ | refine nR ?_ | refine iR ?_ | refine lR ?_ | refine lR0 ?_ | refine lRA ?_ | refine zK ?_ | refine s1 ?_ | refine sA ?_ | refine LK.bsl rfl rfl rfl rfl ?_ | (refine LK.frzR 0 rfl ?_ <;> refine pF ?_) | refine pA ?_ | refine sR ?_ | refine zC ?_ | fail))
  conv => whnf
  exact .out _ (List.Sublist.refl _) ⟨rfl, rfl⟩
theorem oBad_ok (p : Pl) (ro : List Int) (hs : Small p) : FnA Tryz.prog 27 [.agg (pcs p), .sl 1 (ro.map I)] (.tup [.sl 4 ((if okRo p ro then badP p ro else []).map viav), I (if okRo p ro then 0 else 1)]) := by
 have c2 := oIsRo_ok p ro hs
 by_cases hv : validP p = true
 ·have c1 := oPrep_ok p hs hv
  by_cases hr : isRo p ro = true
  ·have ek : okRo p ro = true := by rw [okRo, hv, hr]; rfl
   have hsw := hs.wk
   have hlw : (p.workers.map wkav).length = p.workers.length := by simp
   have h12 := (validP_iff.1 hv).2.2.1
   refine fn_run (T := tab) Tryz.func27 rfl Tryz.ntmps27 rfl Tryz.results27 (fun _ => ?_)
   repeat' ((conv => whnf) <;> (first | refine zM ?_ | refine zW ?_ | intro _ | exact zF | refine Br.tt ?_ | refine Br.ff ?_ | (refine Br.mk (fun h => ?_) (fun h => ?_) <;> (try simp only [sh] at h) <;> try first | (exfalso; omega) | exact absurd trivial h | (simp at h; done)) | refine zA ?_ | refine zN ?_ | refine zO ?_ | refine zP ?_ | refine zB ?_ | refine zL ent35 c1 ?_ | refine zG ent35 (fun h => c1) ?_ | refine zL ent48 c2 ?_ | refine zG ent48 (fun h => c2) ?_ | refine lB ?_ | refine lBA ?_ | refine zK ?_ | refine s1 ?_ | refine sA ?_ | refine zC ?_ | fail))
   ·rw [hr] at h; cases h
   repeat' ((conv => whnf) <;> (first | refine zM ?_ | refine zW ?_ | intro _ | exact zF | refine Br.tt ?_ | refine Br.ff ?_ | (refine Br.mk (fun h => ?_) (fun h => ?_) <;> (try simp only [sh] at h) <;> try first | (exfalso; omega) | exact absurd trivial h | (simp at h; done)) | refine zA ?_ | refine zN ?_ | refine zO ?_ | refine zP ?_ | refine zB ?_ | refine lB ?_ | refine lBA ?_ | refine zK ?_ | refine s1 ?_ | refine sA ?_ | refine zC ?_ | fail))
   refine CK.nilrow 68 4 ?_
   (conv => whnf); refine CK.loopK [8, 9, 26, 27, 28, 29, 30, 31, 32, 33, 34, 35] (σ := Nat × Value × List Vi) (fun s => s.1 ≤ p.workers.length ∧ s.2.2.length ≤ 6000000 * s.1 ∧ (s.2.2.Nodup ∧ ∀ x ∈ s.2.2, x.wk < s.1) ∧ ∀ x, x ∈ s.2.2 ↔ x ∈ (List.range s.1).flatMap fun w => violW p w (mineR ro w)) (fun ⟨k, v, _⟩ => [(26, I k), (8, .v v)]) (fun ⟨_, v, acc⟩ => [.row v 68 4 0 false (acc.map viav)]) _ (fun s => p.workers.length - s.1) (0, .slice none 0 0, []) ⟨Nat.zero_le _, by simp, by simp, by simp⟩ Qy (List.Sublist.refl _) ?_
   conv => whnf
   rintro ⟨k, v, acc⟩ ⟨i1, i2, i4, i3⟩
   simp only at i1 i2 i3 i4
   by_cases hk : k < p.workers.length
   ·have cw := oWorker_ok p ro k hv hs hr hk
    repeat' ((conv => whnf) <;> (first | refine zM ?_ | refine zW ?_ | intro _ | exact zF | refine Fin.pure ?_ | refine Br.tt ?_ | refine Br.ff ?_ | (refine Br.mk (fun h => ?_) (fun h => ?_) <;> (try simp only [sh] at h) <;> try first | (exfalso; omega) | exact absurd trivial h | (simp at h; done)) | refine zA ?_ | refine zN ?_ | refine zO ?_ | refine zP ?_ | refine zB ?_ | (refine LK.call ent38 (cw) rfl rfl Ql (fun _ _ hcall => ?_) <;> obtain ⟨rfl, l, rfl, hl, hll, hln⟩ := hcall) | refine lB ?_ | refine lBA ?_ | refine zK ?_ | refine s1 ?_ | refine sA ?_ | refine pS ?_ | refine zC ?_ | fail))
    rename_i A B' C
    (conv => whnf); (refine Nxt.of ((k + 1, Value.slice A B' C, acc ++ l)) [8, 9, 26, 27, 28, 29, 30, 31, 32, 33, 34, 35] Qr Qr Qr ?_ ?_ Qy ?_ <;> (try dsimp only) <;> (try omega))
    ·refine ⟨hk, by rw [List.length_append]; omega, ⟨List.nodup_append.2 ⟨i4.1, hln, fun a ha b hb e => ?_⟩, fun x hx => ?_⟩, fun x => ?_⟩
     ·have h1 := i4.2 a ha
      have h2 := violW_wk ((hl b).1 hb)
      subst e
      omega
     ·rcases List.mem_append.1 hx with hx | hx
      ·have := i4.2 x hx; omega
      ·have := violW_wk ((hl x).1 hx); omega
     ·rw [List.mem_append, i3, hl, List.range_succ, List.flatMap_append, List.mem_append]
      simp
    ·rw [List.map_append]
     exact Qs
   ·have ek2 : k = p.workers.length := by omega
    subst ek2
    repeat' ((conv => whnf) <;> (first | refine zM ?_ | refine zW ?_ | intro _ | exact zF | refine Br.tt ?_ | refine Br.ff ?_ | (refine Br.mk (fun h => ?_) (fun h => ?_) <;> (try simp only [sh] at h) <;> try first | (exfalso; omega) | exact absurd trivial h | (simp at h; done)) | refine zA ?_ | refine zN ?_ | refine zO ?_ | refine zP ?_ | refine zB ?_ | (refine LK.callL ent49 (sortV_ok (dl := acc) 0 rfl (by omega) i4.1) rfl rfl Ql (fun _ _ hcall => ?_) <;> obtain ⟨rfl, dl, hp, ho, rfl⟩ := hcall) | refine lB ?_ | refine lBA ?_ | refine zK ?_ | refine s1 ?_ | refine sA ?_ | refine zC ?_ | fail))
    have hdl : dl.length ≤ 1000000000 := by rw [hp.length_eq]; omega
    have hb : dl = badP p ro := canV_uniq ho fun x => hp.mem_iff.trans (i3 x)
    repeat' ((conv => whnf) <;> (first | refine zM ?_ | refine zW ?_ | intro _ | exact zF | refine Br.tt ?_ | refine Br.ff ?_ | (refine Br.mk (fun h => ?_) (fun h => ?_) <;> (try simp only [sh] at h) <;> try first | (exfalso; omega) | exact absurd trivial h | (simp at h; done)) | refine zA ?_ | refine zN ?_ | refine zO ?_ | refine zP ?_ | refine zB ?_ | (refine LK.callL ent53 (compV_ok dl ho hdl) rfl rfl Ql (fun _ _ hcall => ?_) <;> obtain ⟨rfl, rfl⟩ := hcall) | refine lB ?_ | refine lBA ?_ | refine zK ?_ | refine s1 ?_ | refine sA ?_ | refine zC ?_ | fail))
    conv => whnf
    rw [ek, if_pos rfl, if_pos rfl, ← hb]
    refine Fin.frzR 0 rfl ?_
    exact Fin.seeP Qz
  ·have ek : okRo p ro = false := by rw [okRo, Bool.eq_false_iff.2 hr, Bool.and_false]
   rw [ek, if_neg Bool.false_ne_true, if_neg Bool.false_ne_true]
   refine fn_run (T := tab) Tryz.func27 rfl Tryz.ntmps27 rfl Tryz.results27 (fun _ => ?_)
   repeat' ((conv => whnf) <;> (first | refine zM ?_ | refine zW ?_ | intro _ | exact zF | refine Br.tt ?_ | refine Br.ff ?_ | (refine Br.mk (fun h => ?_) (fun h => ?_) <;> (try simp only [sh] at h) <;> try first | (exfalso; omega) | exact absurd trivial h | (simp at h; done)) | refine zA ?_ | refine zN ?_ | refine zO ?_ | refine zP ?_ | refine zB ?_ | refine zL ent35 c1 ?_ | refine zG ent35 (fun h => c1) ?_ | refine zL ent48 c2 ?_ | refine zG ent48 (fun h => c2) ?_ | refine lB ?_ | refine lBA ?_ | refine zK ?_ | refine s1 ?_ | refine sA ?_ | refine zC ?_ | fail))
   ·conv => whnf
    exact Fin.seeP Qz
   ·exact absurd h hr
 ·have c1 := oPrep_no p hs (Bool.eq_false_iff.2 hv)
  have ek : okRo p ro = false := by rw [okRo, Bool.eq_false_iff.2 hv, Bool.false_and]
  rw [ek, if_neg Bool.false_ne_true, if_neg Bool.false_ne_true]
  refine fn_run (T := tab) Tryz.func27 rfl Tryz.ntmps27 rfl Tryz.results27 (fun _ => ?_)
  repeat' ((conv => whnf) <;> (first | refine zM ?_ | refine zW ?_ | intro _ | exact zF | refine Br.tt ?_ | refine Br.ff ?_ | (refine Br.mk (fun h => ?_) (fun h => ?_) <;> (try simp only [sh] at h) <;> try first | (exfalso; omega) | exact absurd trivial h | (simp at h; done)) | refine zA ?_ | refine zN ?_ | refine zO ?_ | refine zP ?_ | refine zB ?_ | refine zL ent35 c1 ?_ | refine zG ent35 (fun h => c1) ?_ | refine zL ent48 c2 ?_ | refine zG ent48 (fun h => c2) ?_ | refine lB ?_ | refine lBA ?_ | refine zK ?_ | refine s1 ?_ | refine sA ?_ | refine zC ?_ | fail))
  conv => whnf
  exact Fin.seeP Qz
end Go.Proofs.YtjfnkmlnbaianaaGreat
