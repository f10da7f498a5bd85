/-
  Walks: package roster: the finders of week and minor.
  Conditions: those of each theorem.
-/
import Derived.Test.YtjfnkmlnbaianaaGreatRO4
namespace Go.Proofs.YtjfnkmlnbaianaaGreat
open Go.E2 Go.Wage
theorem MineOk.mins {p : Pl} {w : Nat} {mine : List Nat} (h : MineOk p w mine) {d : Nat} (hd : d ∈ mine) : (minsD p (p.duties.getD d default)).length ≤ 4 ∧ ∀ q ∈ minsD p (p.duties.getD d default), 0 < q.2 ∧ q.2 ≤ 44640 * 65 ∧ 0 ≤ q.1 ∧ q.1 ≤ 36524 := mins_bd h.v (h.du hd)
theorem MineOk.tri {p : Pl} {w : Nat} {mine : List Nat} (h : MineOk p w mine) : TriOk (trip p mine) := tri_of h.v (fun _ hd => h.du hd) h.l
theorem relN {H : Cells} : Rel H (slN []) (.slice none 0 0) := .sl0 (Nat.zero_le _)
set_option maxRecDepth 4000 in
set_option maxHeartbeats 4000000 in
theorem oWeek_ok (p : Pl) (w : Nat) (mine : List Nat) (h : MineOk p w mine) : FnE Tryz.prog 202 [.agg [], .agg (tcs p w mine)] (Fnd (weekL p w (trip p mine))) := by
 have hT := h.tri
 have hTl := hT.len
 have c1 := oDays_ok p w mine h.m h.l hT.pos (by omega)
 generalize trip p mine = T at *
 refine fn_run (T := tab) Tryz.func202 rfl Tryz.ntmps202 rfl Tryz.results202 (fun _ => ?_)
 repeat' ((conv => whnf) <;> (first | refine zM ?_ | refine zW ?_ | intro _ | exact zF | refine Br.tt ?_ | refine Br.ff ?_ | (refine Br.mk (fun h => ?_) (fun h => ?_) <;> (try simp only [sh] at h) <;> try first | (exfalso; omega) | exact absurd trivial h | (simp at h; done)) | refine zA ?_ | refine zN ?_ | refine zO ?_ | refine zP ?_ | refine zB ?_ | (refine LK.call ent203 (c1) rfl rfl Ql (fun _ _ hcall => ?_) <;> obtain ⟨g1, g2, M, D, rfl, rfl, hM, hD⟩ := hcall) | refine lB ?_ | refine lBA ?_ | refine zK ?_ | refine s1 ?_ | refine sA ?_ | refine zC ?_ | fail))
 have hML : M.length ≤ 40001 := hM.len (lo := -1) fun d hd => by have := hT.day d ((sumT_pos hT.pos).1 hd); omega
 repeat' ((conv => whnf) <;> (first | refine zM ?_ | refine zW ?_ | intro _ | exact zF | refine Br.tt ?_ | refine Br.ff ?_ | (refine Br.mk (fun h => ?_) (fun h => ?_) <;> (try simp only [sh] at h) <;> try first | (exfalso; omega) | exact absurd trivial h | (simp at h; done)) | refine zA ?_ | refine zN ?_ | refine zO ?_ | refine zP ?_ | refine zB ?_ | refine zL ent107 (mKeys_ok g1) ?_ | refine zG ent107 (fun h => mKeys_ok g1) ?_ | (refine LK.callL ent106 (FnL.front 1 rfl (sorted_ok I M g1 (by omega))) rfl rfl Ql (fun _ _ hcall => ?_) <;> obtain ⟨rfl, ks, rfl, hp, hle⟩ := hcall) | refine lB ?_ | refine lBA ?_ | refine zK ?_ | refine s1 ?_ | refine sA ?_ | refine zC ?_ | fail))
 have hmem : ∀ d, d ∈ ks ↔ d ∈ T.map (·.2.1) := fun d => hp.mem_iff.trans ((hM.keys d).trans (sumT_pos hT.pos))
 have hks : (ks.map I).length = ks.length := by simp
 have hkl : ks.length ≤ 40001 := by rw [hp.length_eq, List.length_map]; exact hML
 repeat' ((conv => whnf) <;> (first | refine zM ?_ | refine zW ?_ | intro _ | exact zF | refine Br.tt ?_ | refine Br.ff ?_ | (refine Br.mk (fun h => ?_) (fun h => ?_) <;> (try simp only [sh] at h) <;> try first | (exfalso; omega) | exact absurd trivial h | (simp at h; done)) | refine zA ?_ | refine zN ?_ | refine zO ?_ | refine zP ?_ | refine zB ?_ | refine lB ?_ | refine lBA ?_ | refine zK ?_ | refine s1 ?_ | refine sA ?_ | refine zC ?_ | fail))
 refine CK.nilrow 68 4 ?_
 (conv => whnf); refine CK.loopK [5, 9, 10, 11, 21, 22, 23, 24, 25, 26, 27, 28, 29, 30, 31, 32, 33, 34, 35, 36, 37, 38, 39, 40, 41, 42, 43, 44, 45, 46, 47, 48, 49, 50, 51, 52, 53, 54, 55] (σ := Nat × Value × List Vi) (fun s => s.1 ≤ ks.length ∧ s.2.2.length ≤ s.1 ∧ s.2.2.Nodup ∧ ∀ v, v ∈ s.2.2 ↔ ∃ day ∈ ks.take s.1, p.lim.week < week7 T day ∧ v = ⟨4, w, loT T day, -1⟩) (fun ⟨k, v, _⟩ => [(21, I k), (5, .v v)]) (fun ⟨_, v, acc⟩ => [.row v 68 4 0 false (acc.map viav)]) _ (fun s => ks.length - s.1) (0, .slice none 0 0, []) ⟨Nat.zero_le _, by simp, by simp, by simp⟩ Qy (List.Sublist.refl _) ?_
 conv => whnf
 rintro ⟨k, v, acc⟩ ⟨i1, i2, i4, i3⟩
 simp only at i1 i2 i3 i4
 by_cases hk : k < ks.length
 ·have hday := hT.day _ ((hmem _).1 (getD_mem hk))
  repeat' ((conv => whnf) <;> (first | refine zM ?_ | refine zW ?_ | intro _ | exact zF | refine Br.tt ?_ | refine Br.ff ?_ | (refine Br.mk (fun h => ?_) (fun h => ?_) <;> (try simp only [sh] at h) <;> try first | (exfalso; omega) | exact absurd trivial h | (simp at h; done)) | refine zA ?_ | refine zN ?_ | refine zO ?_ | refine zP ?_ | refine zB ?_ | refine lB ?_ | refine lBA ?_ | refine nR ?_ | refine iR ?_ | refine lR ?_ | refine lR0 ?_ | refine lRA ?_ | refine zK ?_ | refine s1 ?_ | refine sA ?_ | refine LK.bsl rfl rfl rfl rfl ?_ | (refine LK.frzR 0 rfl ?_ <;> refine pF ?_) | refine pA ?_ | refine sR ?_ | refine zC ?_ | fail))
  (conv => whnf); refine CK.loopK [10, 11, 25, 26, 27, 28, 29, 30, 31, 32, 33, 34, 35] (σ := Nat × Int) (fun q => q.1 ≤ 7 ∧ q.2 = ((List.range q.1).map fun i : Nat => sumT T ((ks.getD k default) + i)).sum) (fun ⟨i, s⟩ => [(25, I i), (10, I s)]) (fun _ => [.row v 68 4 0 false (acc.map viav)]) _ (fun q => 7 - q.1) (0, 0) ⟨by omega, by simp⟩ Qy (List.Sublist.refl _) ?_
  conv => whnf
  rintro ⟨i, s⟩ ⟨hi, hs⟩
  simp only at hi hs
  have hwb := week_bd hT (ks.getD k default) i
  by_cases hi7 : i < 7
  ·have hget := hM.get (fun d => (sumT_bd d hT.pos).1) ((ks.getD k default) + i)
   have hsb := sumT_bd ((ks.getD k default) + i) hT.pos
   have hws := week_succ T (ks.getD k default) i
   repeat' ((conv => whnf) <;> (first | (refine Nxt.of ((i + 1, _)) [10, 11, 25, 26, 27, 28, 29, 30, 31, 32, 33, 34, 35] Qr Qr Qr ?_ ?_ Qy Qs <;> (try dsimp only) <;> (try omega)) | refine LK.gr (Gr.mget (l := M) (ev := I) (dflt := 0) mapIK rfl (fun _ => .v _) 1 rfl rfl rfl rfl).1 ?_ | refine zM ?_ | refine zW ?_ | intro _ | exact zF | refine Fin.pure ?_ | refine Br.tt ?_ | refine Br.ff ?_ | (refine Br.mk (fun h => ?_) (fun h => ?_) <;> (try simp only [sh] at h) <;> try first | (exfalso; omega) | exact absurd trivial h | (simp at h; done)) | refine zA ?_ | refine zN ?_ | refine zO ?_ | refine zP ?_ | refine zB ?_ | refine lB ?_ | refine lBA ?_ | refine nR ?_ | refine iR ?_ | refine lR ?_ | refine lR0 ?_ | refine lRA ?_ | refine zK ?_ | refine s1 ?_ | refine sA ?_ | refine LK.bsl rfl rfl rfl rfl ?_ | (refine LK.frzR 0 rfl ?_ <;> refine pF ?_) | refine pA ?_ | refine sR ?_ | refine zC ?_ | fail))
  ·have hs7 : s = week7 T (ks.getD k default) := by
    obtain rfl : i = 7 := by omega
    exact hs
   have hkd := (hmem _).1 (getD_mem hk)
   have hne : 0 < (dutT T (ks.getD k default)).length := List.length_pos_iff.2 (dutT_ne.2 hkd)
   have hDg := hD (ks.getD k default)
   have hlg : 0 < ((lk (ks.getD k default) D).getD []).length := by rw [hDg]; exact hne
   have hlg2 : ((lk (ks.getD k default) D).getD []).length ≤ 4000 := by rw [hDg]; exact Nat.le_trans (dutT_len _ _) hTl
   have hlo : ((((lk (ks.getD k default) D).getD []).getD 0 default : Nat) : Int) = loT T (ks.getD k default) := by rw [hDg]; rfl
   have hal := addV_len acc ⟨4, w, (((lk (ks.getD k default) D).getD []).getD 0 default : Nat), -1⟩
   have hor : ∀ x, (∃ day ∈ ks.take (k + 1), p.lim.week < week7 T day ∧ x = (⟨4, w, loT T day, -1⟩ : Vi)) ↔ (∃ day ∈ ks.take k, p.lim.week < week7 T day ∧ x = (⟨4, w, loT T day, -1⟩ : Vi)) ∨ (p.lim.week < week7 T (ks.getD k default) ∧ x = (⟨4, w, loT T (ks.getD k default), -1⟩ : Vi)) := fun x => by
    rw [List.take_succ_eq_append_getElem hk, ← getD_at hk]
    simp only [List.mem_append, List.mem_singleton, or_and_right, exists_or, exists_eq_left]
   repeat' ((conv => whnf) <;> (first | (refine Kx.eff rfl (Eff.callL ent204 rfl rfl Ql (oAdd_ok acc ⟨4, w, (((lk (ks.getD k default) D).getD []).getD 0 default : Nat), -1⟩ (by omega))) (by rintro _ _ ⟨v', rfl, rfl⟩; exact Qs) ?_ <;> rintro _ _ ⟨v', rfl, rfl⟩) | refine Ask.of (Gr.mget (l := D) (ev := slN) (dflt := []) mapSK rfl (fun _ => relN) 1 rfl rfl rfl rfl).1 ?_ | refine CK.anyK (id := 13) [0, 1, 2, 3, 4, 5, 6, 7, 8] [9, 10] _ (List.Sublist.cons _ (List.Sublist.refl _)) Qk ?_ | refine zM ?_ | refine zW ?_ | intro _ | exact zF | refine Fin.pure ?_ | refine Br.tt ?_ | refine Br.ff ?_ | (refine Br.mk (fun h => ?_) (fun h => ?_) <;> (try simp only [sh] at h) <;> try first | (exfalso; omega) | exact absurd trivial h | (simp at h; done)) | refine zA ?_ | refine zN ?_ | refine zO ?_ | refine zP ?_ | refine zB ?_ | refine lB ?_ | refine lBA ?_ | refine nR ?_ | refine iR ?_ | refine lR ?_ | refine lR0 ?_ | refine lRA ?_ | refine zK ?_ | refine s1 ?_ | refine sA ?_ | refine LK.bsl rfl rfl rfl rfl ?_ | (refine LK.frzR 0 rfl ?_ <;> refine pF ?_) | refine pA ?_ | refine sR ?_ | refine Kx.nil ?_ | refine Kx.stp rfl rfl Qs ?_ | refine kA ?_ | (refine Kx.frzR 0 rfl ?_ <;> refine kF ?_) | refine kP ?_ | refine k1 ?_ | refine kB ?_ | refine kL ?_ | refine zC ?_ | fail))
   ·(conv => whnf); (refine Nxt.of ((k + 1, v', addV acc ⟨4, w, (((lk (ks.getD k default) D).getD []).getD 0 default : Nat), -1⟩)) [5, 9, 10, 11, 21, 22, 23, 24, 25, 26, 27, 28, 29, 30, 31, 32, 33, 34, 35, 36, 37, 38, 39, 40, 41, 42, 43, 44, 45, 46, 47, 48, 49, 50, 51, 52, 53, 54, 55] Qr Qr Qr ?_ ?_ Qy ?_ <;> (try dsimp only) <;> (try omega))
    ·refine ⟨hk, by omega, addV_nodup _ i4, fun x => ?_⟩
     rw [mem_addV, i3, hor x, hlo]
     exact or_congr Iff.rfl ⟨fun e => ⟨by omega, e⟩, fun e => e.2⟩
    ·exact List.Sublist.refl _
   ·(conv => whnf); (refine Nxt.of ((k + 1, v, acc)) [5, 9, 10, 11, 21, 22, 23, 24, 25, 26, 27, 28, 29, 30, 31, 32, 33, 34, 35, 36, 37, 38, 39, 40, 41, 42, 43, 44, 45, 46, 47, 48, 49, 50, 51, 52, 53, 54, 55] Qr Qr Qr ?_ ?_ Qy Qs <;> (try dsimp only) <;> (try omega))
    refine ⟨hk, by omega, i4, fun x => ?_⟩
    rw [i3, hor x]
    exact ⟨.inl, fun e => e.elim id fun e => absurd e.1 (by omega)⟩
 ·have e : ks.take k = ks := List.take_of_length_le (by omega)
  rw [e] at i3
  repeat' ((conv => whnf) <;> (first | refine zM ?_ | refine zW ?_ | intro _ | exact zF | refine Br.tt ?_ | refine Br.ff ?_ | (refine Br.mk (fun h => ?_) (fun h => ?_) <;> (try simp only [sh] at h) <;> try first | (exfalso; omega) | exact absurd trivial h | (simp at h; done)) | refine zA ?_ | refine zN ?_ | refine zO ?_ | refine zP ?_ | refine zB ?_ | refine lB ?_ | refine lBA ?_ | refine nR ?_ | refine iR ?_ | refine lR ?_ | refine lR0 ?_ | refine lRA ?_ | refine zK ?_ | refine s1 ?_ | refine sA ?_ | refine LK.bsl rfl rfl rfl rfl ?_ | (refine LK.frzR 0 rfl ?_ <;> refine pF ?_) | refine pA ?_ | refine sR ?_ | refine zC ?_ | fail))
  conv => whnf
  refine Fin.frzR 0 rfl ?_
  refine Fin.see (Sb.row 0 rfl) ?_
  refine .out [] (List.nil_sublist _) ⟨rfl, _, rfl, fun x => (i3 x).trans ?_, by omega, i4⟩
  unfold weekL
  simp only [List.mem_map, List.mem_filter, decide_eq_true_eq]
  constructor
  ·rintro ⟨day, hd, h1, rfl⟩
   exact ⟨day, ⟨List.mem_map.1 ((hmem day).1 hd), h1⟩, rfl⟩
  ·rintro ⟨day, ⟨hd, h1⟩, rfl⟩
   exact ⟨day, (hmem day).2 (List.mem_map.2 hd), h1, rfl⟩
set_option maxRecDepth 4000 in
set_option maxHeartbeats 4000000 in
theorem oMinor_ok (p : Pl) (w : Nat) (mine : List Nat) (ho : MineOk p w mine) : FnE Tryz.prog 207 [.agg [], .agg (tcs p w mine)] (Fnd (if (p.workers.getD w default).minor then minL p w (trip p mine) else [])) := by
 have hT := ho.tri
 have hTl := hT.len
 have c0 := oWho_ok p w mine ho
 have c1 := oDays_ok p w mine ho.m ho.l hT.pos (by omega)
 generalize trip p mine = T at *
 refine fn_run (T := tab) Tryz.func207 rfl Tryz.ntmps207 rfl Tryz.results207 (fun _ => ?_)
 repeat' ((conv => whnf) <;> (first | refine Ask.of (Gr.fieldV fldMi rfl rfl) ?_ | refine zM ?_ | refine zW ?_ | intro _ | exact zF | refine Br.tt ?_ | refine Br.ff ?_ | (refine Br.mk (fun h => ?_) (fun h => ?_) <;> (try simp only [sh] at h) <;> try first | (exfalso; omega) | exact absurd trivial h | (simp at h; done)) | refine zA ?_ | refine zN ?_ | refine zO ?_ | refine zP ?_ | refine zB ?_ | refine zL ent192 c0 ?_ | refine zG ent192 (fun h => c0) ?_ | (refine LK.call ent203 (c1) rfl rfl Ql (fun _ _ hcall => ?_) <;> obtain ⟨g1, g2, M, D, rfl, rfl, hM, hD⟩ := hcall) | refine lB ?_ | refine lBA ?_ | refine zK ?_ | refine s1 ?_ | refine sA ?_ | refine zC ?_ | fail))
 ·conv => whnf
  refine Fin.see (b := .sl 4 []) Sb.nil ?_
  exact .out [] (List.nil_sublist _) ⟨rfl, [], rfl, fun v => by rw [h]; exact Iff.rfl, by simp, by simp⟩
 rw [if_pos h]
 have hML : M.length ≤ 40001 := hM.len (lo := -1) fun d hd => by have := hT.day d ((sumT_pos hT.pos).1 hd); omega
 repeat' ((conv => whnf) <;> (first | refine zM ?_ | refine zW ?_ | intro _ | exact zF | refine Br.tt ?_ | refine Br.ff ?_ | (refine Br.mk (fun h => ?_) (fun h => ?_) <;> (try simp only [sh] at h) <;> try first | (exfalso; omega) | exact absurd trivial h | (simp at h; done)) | refine zA ?_ | refine zN ?_ | refine zO ?_ | refine zP ?_ | refine zB ?_ | refine zL ent107 (mKeys_ok g1) ?_ | refine zG ent107 (fun h => mKeys_ok g1) ?_ | (refine LK.callL ent106 (FnL.front 1 rfl (sorted_ok I M g1 (by omega))) rfl rfl Ql (fun _ _ hcall => ?_) <;> obtain ⟨rfl, ks, rfl, hp, hle⟩ := hcall) | refine lB ?_ | refine lBA ?_ | refine zK ?_ | refine s1 ?_ | refine sA ?_ | refine zC ?_ | fail))
 have hmem : ∀ d, d ∈ ks ↔ d ∈ T.map (·.2.1) := fun d => hp.mem_iff.trans ((hM.keys d).trans (sumT_pos hT.pos))
 have hks : (ks.map I).length = ks.length := by simp
 have hkl : ks.length ≤ 40001 := by rw [hp.length_eq, List.length_map]; exact hML
 repeat' ((conv => whnf) <;> (first | refine zM ?_ | refine zW ?_ | intro _ | exact zF | refine Br.tt ?_ | refine Br.ff ?_ | (refine Br.mk (fun h => ?_) (fun h => ?_) <;> (try simp only [sh] at h) <;> try first | (exfalso; omega) | exact absurd trivial h | (simp at h; done)) | refine zA ?_ | refine zN ?_ | refine zO ?_ | refine zP ?_ | refine zB ?_ | refine lB ?_ | refine lBA ?_ | refine zK ?_ | refine s1 ?_ | refine sA ?_ | refine zC ?_ | fail))
 refine CK.nilrow 68 4 ?_
 (conv => whnf); refine CK.loopK [5, 9, 10, 11, 25, 26, 27, 28, 29, 30, 31, 32, 33, 34, 35, 36, 37, 38, 39, 40, 41, 42, 43, 44, 45, 46, 47, 48, 49, 50, 51, 52, 53, 54, 55, 56, 57, 58, 59, 60, 61, 62, 63, 64, 65] (σ := Nat × Value × List Vi) (fun s => s.1 ≤ ks.length ∧ s.2.2.length ≤ s.1 ∧ s.2.2.Nodup ∧ ∀ v, v ∈ s.2.2 ↔ ∃ day ∈ ks.take s.1, p.lim.minor < sumT T day ∧ v = ⟨6, w, loT T day, hiT T day⟩) (fun ⟨k, v, _⟩ => [(25, I k), (5, .v v)]) (fun ⟨_, v, acc⟩ => [.row v 68 4 0 false (acc.map viav)]) _ (fun s => ks.length - s.1) (0, .slice none 0 0, []) ⟨Nat.zero_le _, by simp, by simp, by simp⟩ Qy (List.Sublist.refl _) ?_
 conv => whnf
 rintro ⟨k, v, acc⟩ ⟨i1, i2, i4, i3⟩
 simp only at i1 i2 i3 i4
 by_cases hk : k < ks.length
 ·have hget := hM.get (fun d => (sumT_bd d hT.pos).1) (ks.getD k default)
  have hkd := (hmem _).1 (getD_mem hk)
  have hne : 0 < (dutT T (ks.getD k default)).length := List.length_pos_iff.2 (dutT_ne.2 hkd)
  have hDg := hD (ks.getD k default)
  have hlg : 0 < ((lk (ks.getD k default) D).getD []).length := by rw [hDg]; exact hne
  have hlg2 : ((lk (ks.getD k default) D).getD []).length ≤ 4000 := by rw [hDg]; exact Nat.le_trans (dutT_len _ _) hTl
  have hlo : ((((lk (ks.getD k default) D).getD []).getD 0 default : Nat) : Int) = loT T (ks.getD k default) := by rw [hDg]; rfl
  have hor : ∀ x, (∃ day ∈ ks.take (k + 1), p.lim.minor < sumT T day ∧ x = (⟨6, w, loT T day, hiT T day⟩ : Vi)) ↔ (∃ day ∈ ks.take k, p.lim.minor < sumT T day ∧ x = (⟨6, w, loT T day, hiT T day⟩ : Vi)) ∨ (p.lim.minor < sumT T (ks.getD k default) ∧ x = (⟨6, w, loT T (ks.getD k default), hiT T (ks.getD k default)⟩ : Vi)) := fun x => by
   rw [List.take_succ_eq_append_getElem hk, ← getD_at hk]
   simp only [List.mem_append, List.mem_singleton, or_and_right, exists_or, exists_eq_left]
  have hmapl : (((lk (ks.getD k default) D).getD []).map In).length = ((lk (ks.getD k default) D).getD []).length := by simp
  have ha1 := addV_len acc ⟨6, w, (((lk (ks.getD k default) D).getD []).getD 0 default : Nat), -1⟩
  have ha2 := addV_len acc ⟨6, w, (((lk (ks.getD k default) D).getD []).getD 0 default : Nat), (((lk (ks.getD k default) D).getD []).getD ((((((lk (ks.getD k default) D).getD []).map In).length : Nat) : Int) - 1).toNat default : Nat)⟩
  repeat' ((conv => whnf) <;> (first | refine LK.gr (Gr.mget (l := D) (ev := slN) (dflt := []) mapSK rfl (fun _ => relN) 3 rfl rfl rfl rfl).1 ?_ | refine Ask.of (Gr.mget (l := D) (ev := slN) (dflt := []) mapSK rfl (fun _ => relN) 2 rfl rfl rfl rfl).1 ?_ | refine Ask.of (Gr.mget (l := M) (ev := I) (dflt := 0) mapIK rfl (fun _ => .v _) 1 rfl rfl rfl rfl).1 ?_ | refine CK.anyK (id := 9) [0, 1, 2, 3, 4, 5, 6, 7] [8, 9] _ (List.Sublist.refl _) Qk ?_ | refine CK.anyK (id := 8) [0, 1, 2, 3, 4, 5, 6, 7, 8, 9, 10] [] _ (List.Sublist.refl _) Qk ?_ | refine zM ?_ | refine zW ?_ | intro _ | exact zF | refine Fin.pure ?_ | refine Br.tt ?_ | refine Br.ff ?_ | (refine Br.mk (fun h => ?_) (fun h => ?_) <;> (try simp only [sh] at h) <;> try first | (exfalso; omega) | exact absurd trivial h | (simp at h; done)) | refine zA ?_ | refine zN ?_ | refine zO ?_ | refine zP ?_ | refine zB ?_ | refine lB ?_ | refine lBA ?_ | refine nR ?_ | refine iR ?_ | refine lR ?_ | refine lR0 ?_ | refine lRA ?_ | refine zK ?_ | refine s1 ?_ | refine sA ?_ | refine LK.bsl rfl rfl rfl rfl ?_ | (refine LK.frzR 0 rfl ?_ <;> refine pF ?_) | refine pA ?_ | refine sR ?_ | refine Kx.nil ?_ | refine Kx.stp rfl rfl Qs ?_ | refine kA ?_ | (refine Kx.frzR 0 rfl ?_ <;> refine kF ?_) | refine kP ?_ | refine k1 ?_ | refine kB ?_ | refine kL ?_ | refine zC ?_ | fail))
  ·(conv => whnf); (refine Nxt.of ((k + 1, v, acc)) [5, 9, 10, 11, 25, 26, 27, 28, 29, 30, 31, 32, 33, 34, 35, 36, 37, 38, 39, 40, 41, 42, 43, 44, 45, 46, 47, 48, 49, 50, 51, 52, 53, 54, 55, 56, 57, 58, 59, 60, 61, 62, 63, 64, 65] Qr Qr Qr ?_ ?_ Qy Qs <;> (try dsimp only) <;> (try omega))
   refine ⟨hk, by omega, i4, fun x => ?_⟩
   rw [i3, hor x]
   exact ⟨.inl, fun e => e.elim id fun e => absurd e.1 (by omega)⟩
  ·have hhi : ((((lk (ks.getD k default) D).getD []).getD ((((((lk (ks.getD k default) D).getD []).map In).length : Nat) : Int) - 1).toNat default : Nat) : Int) = hiT T (ks.getD k default) := by
    rw [hDg] at h ⊢
    unfold hiT
    rw [if_pos (by omega), List.length_map]
    congr 3
    omega
   repeat' ((conv => whnf) <;> (first | (refine Nxt.of ((k + 1, v', addV acc ⟨6, w, (((lk (ks.getD k default) D).getD []).getD 0 default : Nat), (((lk (ks.getD k default) D).getD []).getD ((((((lk (ks.getD k default) D).getD []).map In).length : Nat) : Int) - 1).toNat default : Nat)⟩)) [5, 9, 10, 11, 25, 26, 27, 28, 29, 30, 31, 32, 33, 34, 35, 36, 37, 38, 39, 40, 41, 42, 43, 44, 45, 46, 47, 48, 49, 50, 51, 52, 53, 54, 55, 56, 57, 58, 59, 60, 61, 62, 63, 64, 65] Qr Qr Qr ?_ ?_ Qy ?_ <;> (try dsimp only) <;> (try omega)) | refine zM ?_ | refine zW ?_ | intro _ | exact zF | refine Fin.pure ?_ | refine Br.tt ?_ | refine Br.ff ?_ | (refine Br.mk (fun h => ?_) (fun h => ?_) <;> (try simp only [sh] at h) <;> try first | (exfalso; omega) | exact absurd trivial h | (simp at h; done)) | refine zA ?_ | refine zN ?_ | refine zO ?_ | refine zP ?_ | refine zB ?_ | (refine LK.callL ent204 (FnL.front 1 rfl (oAdd_ok acc ⟨6, w, (((lk (ks.getD k default) D).getD []).getD 0 default : Nat), (((lk (ks.getD k default) D).getD []).getD ((((((lk (ks.getD k default) D).getD []).map In).length : Nat) : Int) - 1).toNat default : Nat)⟩ (by omega))) rfl rfl Ql (fun _ _ hcall => ?_) <;> obtain ⟨v', rfl, rfl⟩ := hcall) | refine lB ?_ | refine lBA ?_ | refine nR ?_ | refine iR ?_ | refine lR ?_ | refine lR0 ?_ | refine lRA ?_ | refine zK ?_ | refine s1 ?_ | refine sA ?_ | refine LK.bsl rfl rfl rfl rfl ?_ | (refine LK.frzR 0 rfl ?_ <;> refine pF ?_) | refine pA ?_ | refine sR ?_ | refine Kx.nil ?_ | refine Kx.stp rfl rfl Qs ?_ | refine kA ?_ | (refine Kx.frzR 0 rfl ?_ <;> refine kF ?_) | refine kP ?_ | refine k1 ?_ | refine kB ?_ | refine kL ?_ | refine zC ?_ | fail))
   ·refine ⟨hk, by omega, addV_nodup _ i4, fun x => ?_⟩
    rw [mem_addV, i3, hor x, hlo, hhi]
    exact or_congr Iff.rfl ⟨fun e => ⟨by omega, e⟩, fun e => e.2⟩
   ·exact Qs
  ·have hhi : (-1 : Int) = hiT T (ks.getD k default) := by
    rw [hDg] at h
    unfold hiT
    rw [if_neg (by omega)]
   repeat' ((conv => whnf) <;> (first | (refine Nxt.of ((k + 1, v', addV acc ⟨6, w, (((lk (ks.getD k default) D).getD []).getD 0 default : Nat), -1⟩)) [5, 9, 10, 11, 25, 26, 27, 28, 29, 30, 31, 32, 33, 34, 35, 36, 37, 38, 39, 40, 41, 42, 43, 44, 45, 46, 47, 48, 49, 50, 51, 52, 53, 54, 55, 56, 57, 58, 59, 60, 61, 62, 63, 64, 65] Qr Qr Qr ?_ ?_ Qy ?_ <;> (try dsimp only) <;> (try omega)) | refine zM ?_ | refine zW ?_ | intro _ | exact zF | refine Fin.pure ?_ | refine Br.tt ?_ | refine Br.ff ?_ | (refine Br.mk (fun h => ?_) (fun h => ?_) <;> (try simp only [sh] at h) <;> try first | (exfalso; omega) | exact absurd trivial h | (simp at h; done)) | refine zA ?_ | refine zN ?_ | refine zO ?_ | refine zP ?_ | refine zB ?_ | (refine LK.callL ent204 (FnL.front 1 rfl (oAdd_ok acc ⟨6, w, (((lk (ks.getD k default) D).getD []).getD 0 default : Nat), -1⟩ (by omega))) rfl rfl Ql (fun _ _ hcall => ?_) <;> obtain ⟨v', rfl, rfl⟩ := hcall) | refine lB ?_ | refine lBA ?_ | refine nR ?_ | refine iR ?_ | refine lR ?_ | refine lR0 ?_ | refine lRA ?_ | refine zK ?_ | refine s1 ?_ | refine sA ?_ | refine LK.bsl rfl rfl rfl rfl ?_ | (refine LK.frzR 0 rfl ?_ <;> refine pF ?_) | refine pA ?_ | refine sR ?_ | refine Kx.nil ?_ | refine Kx.stp rfl rfl Qs ?_ | refine kA ?_ | (refine Kx.frzR 0 rfl ?_ <;> refine kF ?_) | refine kP ?_ | refine k1 ?_ | refine kB ?_ | refine kL ?_ | refine zC ?_ | fail))
   ·refine ⟨hk, by omega, addV_nodup _ i4, fun x => ?_⟩
    rw [mem_addV, i3, hor x, hlo, hhi]
    exact or_congr Iff.rfl ⟨fun e => ⟨by omega, e⟩, fun e => e.2⟩
   ·exact Qs
 ·have e : ks.take k = ks := List.take_of_length_le (by omega)
  rw [e] at i3
  repeat' ((conv => whnf) <;> (first | refine zM ?_ | refine zW ?_ | intro _ | exact zF | refine Br.tt ?_ | refine Br.ff ?_ | (refine Br.mk (fun h => ?_) (fun h => ?_) <;> (try simp only [sh] at h) <;> try first | (exfalso; omega) | exact absurd trivial h | (simp at h; done)) | refine zA ?_ | refine zN ?_ | refine zO ?_ | refine zP ?_ | refine zB ?_ | refine lB ?_ | refine lBA ?_ | refine nR ?_ | refine iR ?_ | refine lR ?_ | refine lR0 ?_ | refine lRA ?_ | refine zK ?_ | refine s1 ?_ | refine sA ?_ | refine LK.bsl rfl rfl rfl rfl ?_ | (refine LK.frzR 0 rfl ?_ <;> refine pF ?_) | refine pA ?_ | refine sR ?_ | refine zC ?_ | fail))
  conv => whnf
  refine Fin.frzR 0 rfl ?_
  refine Fin.see (Sb.row 0 rfl) ?_
  refine .out [] (List.nil_sublist _) ⟨rfl, _, rfl, fun x => (i3 x).trans ?_, by omega, i4⟩
  unfold minL
  simp only [List.mem_map, List.mem_filter, decide_eq_true_eq]
  constructor
  ·rintro ⟨day, hd, h1, rfl⟩
   exact ⟨day, ⟨List.mem_map.1 ((hmem day).1 hd), h1⟩, rfl⟩
  ·rintro ⟨day, ⟨hd, h1⟩, rfl⟩
   exact ⟨day, (hmem day).2 (List.mem_map.2 hd), h1, rfl⟩
end Go.Proofs.YtjfnkmlnbaianaaGreat
