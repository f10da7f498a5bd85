/-
  Walks: the reference of chapter 18: insertion, single violations, Bad, Cost.
  Conditions: those of each theorem.
-/
import Derived.Test.YtjfnkmlnbaianaaGreatRF1
import Derived.Test.YtjfnkmlnbaianaaGreatZE
namespace Go.Proofs.YtjfnkmlnbaianaaGreat
open Go.E2 Go.Wage
theorem onL_bd {l : List (Int × Int)} {M day : Int} (ho : l.Pairwise fun a b => a.1 < b.1) (hM : 0 ≤ M) (h : ∀ q ∈ l, q.2 ≤ M) : onL l day ≤ M := by
 by_cases hk : ∃ k, k < l.length ∧ (l.getD k default).1 = day
 ·obtain ⟨k, h1, h2⟩ := hk
  rw [onL_first ho h1 h2]
  exact h _ (getD_mem h1)
 ·rw [onL_none fun q hq e => hk (by
   obtain ⟨k, h1, rfl⟩ := List.mem_iff_getElem.1 hq
   exact ⟨k, h1, by rw [getD_at h1]; exact e⟩)]
  exact hM
theorem mins_bdR {p : Pl} (hv : validP p = true) {d : Nat} (hd : d < p.duties.length) : (minsD p (p.duties.getD d default)).length ≤ 4 ∧ ∀ q ∈ minsD p (p.duties.getD d default), 0 < q.2 ∧ q.2 ≤ 44640 * 65 ∧ 0 ≤ q.1 ∧ q.1 ≤ 36524 := by
 have h3 := List.all_eq_true.1 (validP_iff.1 hv).2.2.2.1 _ (getD_mem hd)
 generalize p.duties.getD d default = e at *
 unfold dutyOk at h3
 rw [Bool.and_eq_true_iff] at h3
 have h5 := duB_bd h3.1
 obtain ⟨q1, q2, q3⟩ := z_pre (validP_iff.1 hv).1 e.frm e.to_
 refine ⟨?_, fun q hq => ?_⟩
 ·unfold minsD splitZ prt
  refine Nat.le_trans (prtZ_len _ _ _) ?_
  omega
 ·have h6 := List.all_eq_true.1 h3.2 q hq
  unfold okDay at h6
  simp only [decide_eq_true_eq] at h6
  have h7 := (prt_mem (X := strZ p.zone.base p.zone.chs e.frm e.to_) (a := e.frm) (b := e.to_) (fun s hs => by have := q3 s hs; omega) (by omega) (p := q)).1 hq
  have h8 := dyZ_bd q.1 (strZ p.zone.base p.zone.chs e.frm e.to_) fun s hs => by have := q3 s hs; omega
  omega
theorem onP_bd {p : Pl} (hv : validP p = true) {d : Nat} (hd : d < p.duties.length) (day : Int) : onP p d day ≤ 2901600 :=
 onL_bd (mins_ord p _) (by omega) fun q hq => by have := (mins_bdR hv hd).2 q hq; omega
theorem kd_bd {p : Pl} (hv : validP p = true) {d : Nat} (hd : d < p.duties.length) (frm : Int) : ∀ m, kd p d frm m ≤ 2901600 * m
 | 0 => by rw [kd_zero]; omega
 | m + 1 => by
  have := kd_bd hv hd frm m
  have := onP_bd hv hd (frm + m)
  rw [kd_succ]; omega
theorem v8on_ok (p : Pl) (d : Nat) (day : Int) (hv : validP p = true) (hd : d < p.duties.length) (hs : Small p) : FnA Tryz.prog 132 [.agg (pcs p), In d, I day] (I (onP p d day)) := by
 have hok := List.all_eq_true.1 (validP_iff.1 hv).2.2.2.1 _ (getD_mem hd)
 have c1 := e7Minutes_ok p (p.duties.getD d default) (validP_iff.1 hv).1
 rw [if_pos hok, if_pos hok] at c1
 have hsd := hs.du
 have hld : (p.duties.map duav).length = p.duties.length := by simp
 have ho := mins_ord p (p.duties.getD d default)
 have hlen : (minsD p (p.duties.getD d default)).length ≤ 100 := by
  have := (mins_bdR hv hd).1
  omega
 unfold onP
 generalize minsD p (p.duties.getD d default) = l at *
 have hll : (l.map ptav).length = l.length := by simp
 refine fn_run (T := tab) Tryz.func132 rfl Tryz.ntmps132 rfl Tryz.results132 (fun _ => ?_)
 repeat' ((conv => whnf) <;> (first | refine zM ?_ | refine zW ?_ | intro _ | exact zF | refine Br.tt ?_ | refine Br.ff ?_ | (refine Br.mk (fun h => ?_) (fun h => ?_) <;> (try simp only [sh] at h) <;> try first | (exfalso; omega) | exact absurd trivial h | (simp at h; done)) | refine zA ?_ | refine zN ?_ | refine zO ?_ | refine zP ?_ | refine zB ?_ | refine zL ent46 c1 ?_ | refine zG ent46 (fun h => c1) ?_ | refine lB ?_ | refine lBA ?_ | refine zK ?_ | refine s1 ?_ | refine sA ?_ | refine zC ?_ | fail))
 (conv => whnf); refine CK.loop [6, 9, 21, 22, 23, 24, 25, 26, 27, 28, 29, 30, 31, 32, 33, 34, 35, 36, 37, 38] (σ := Nat) (fun k => k ≤ l.length ∧ ∀ q ∈ l.take k, q.1 ≠ day) (fun k => [(9, I k)]) (fun _ => _) (fun k => l.length - k) 0 ⟨Nat.zero_le _, by simp⟩ Qy (List.Sublist.refl _) ?_
 conv => whnf
 rintro k ⟨i1, i2⟩
 by_cases hk : k < l.length
 ·repeat' ((conv => whnf) <;> (first | refine zM ?_ | refine zW ?_ | intro _ | exact zF | refine Br.tt ?_ | refine Br.ff ?_ | (refine Br.mk (fun h => ?_) (fun h => ?_) <;> (try simp only [sh] at h) <;> try first | (exfalso; omega) | exact absurd trivial h | (simp at h; done)) | refine zA ?_ | refine zN ?_ | refine zO ?_ | refine zP ?_ | refine zB ?_ | refine lB ?_ | refine lBA ?_ | refine zK ?_ | refine s1 ?_ | refine sA ?_ | refine zC ?_ | fail))
  ·conv => whnf
   exact Fin.pure (congrArg I (onL_first ho hk h).symm)
  ·(conv => whnf); (refine Nxt.of (k + 1) [6, 9, 21, 22, 23, 24, 25, 26, 27, 28, 29, 30, 31, 32, 33, 34, 35, 36, 37, 38] Qr Qr Qr ?_ ?_ Qy Qs <;> (try dsimp only) <;> (try omega))
   refine ⟨hk, fun q hq => ?_⟩
   rw [List.take_succ_eq_append_getElem hk, List.mem_append, ← getD_at hk, List.mem_singleton] at hq
   rcases hq with hq | rfl
   ·exact i2 q hq
   ·exact h
 ·repeat' ((conv => whnf) <;> (first | refine zM ?_ | refine zW ?_ | intro _ | exact zF | refine Br.tt ?_ | refine Br.ff ?_ | (refine Br.mk (fun h => ?_) (fun h => ?_) <;> (try simp only [sh] at h) <;> try first | (exfalso; omega) | exact absurd trivial h | (simp at h; done)) | refine zA ?_ | refine zN ?_ | refine zO ?_ | refine zP ?_ | refine zB ?_ | refine lB ?_ | refine lBA ?_ | refine zK ?_ | refine s1 ?_ | refine sA ?_ | refine zC ?_ | fail))
  conv => whnf
  rw [List.take_of_length_le (by omega)] at i2
  exact Fin.pure (congrArg I (onL_none i2).symm)
theorem v8less_ok (a b : Vi) : FnA Tryz.prog 131 [viav a, viav b] (B (decide (ltV a b))) := by
 refine fn_run (T := tab) Tryz.func131 rfl Tryz.ntmps131 rfl Tryz.results131 (fun _ => ?_)
 repeat' ((conv => whnf) <;> (first | refine zM ?_ | refine zW ?_ | intro _ | exact zF | refine Br.tt ?_ | refine Br.ff ?_ | (refine Br.mk (fun h => ?_) (fun h => ?_) <;> (try simp only [sh] at h) <;> try first | (exfalso; omega) | exact absurd trivial h | (simp at h; done)) | refine zA ?_ | refine zN ?_ | refine zO ?_ | refine zP ?_ | refine zB ?_ | refine lB ?_ | refine lBA ?_ | refine zK ?_ | refine s1 ?_ | refine sA ?_ | refine zC ?_ | fail))
 all_goals (conv => whnf)
 all_goals (refine Fin.pure (congrArg B ?_); rw [decide_eq_decide]; unfold ltV; omega)
set_option maxHeartbeats 4000000 in
theorem v8insert_ok (l : List Vi) (v : Vi) (hl : l.length ≤ 1000000) : FnA Tryz.prog 112 [.sl 4 (l.map viav), viav v] (.sl 4 ((insV v l).map viav)) := by
 have hll : (l.map viav).length = l.length := by simp
 refine fn_run (T := tab) Tryz.func112 rfl Tryz.ntmps112 rfl Tryz.results112 (fun _ => ?_)
 repeat' ((conv => whnf) <;> (first | refine zM ?_ | refine zW ?_ | intro _ | exact zF | refine Br.tt ?_ | refine Br.ff ?_ | (refine Br.mk (fun h => ?_) (fun h => ?_) <;> (try simp only [sh] at h) <;> try first | (exfalso; omega) | exact absurd trivial h | (simp at h; done)) | refine zA ?_ | refine zN ?_ | refine zO ?_ | refine zP ?_ | refine zB ?_ | refine lB ?_ | refine lBA ?_ | refine zK ?_ | refine s1 ?_ | refine sA ?_ | refine zC ?_ | fail))
 (conv => whnf); refine CK.loop [5, 6, 7, 8, 9, 10, 11, 12, 13, 14, 15, 16, 17, 18, 19] (σ := Nat) (fun k => k ≤ l.length ∧ ∀ x ∈ l.take k, ltV x v) (fun k => [(5, I k)]) (fun _ => _) (fun k => l.length - k) 0 ⟨Nat.zero_le _, by simp⟩ Qy (List.Sublist.refl _) ?_
 conv => whnf
 rintro k ⟨i1, i2⟩
 have fin : (k < l.length → ¬ ltV (l.getD k default) v) → insV v l = if k < l.length ∧ l.getD k default = v then l else l.take k ++ v :: l.drop k := insV_at i1 i2
 have hlt : ((l.map viav).take k).length ≤ 1000000 := by simp; omega
 have hld : ((l.map viav).drop k).length ≤ 1000000 := by simp; omega
 have hlt2 : ((l.map viav).take (k : Int).toNat).length ≤ 1000000 := hlt
 have hld2 : ((l.map viav).drop (k : Int).toNat).length ≤ 1000000 := hld
 have c1 := v8less_ok (l.getD k default) v
 by_cases hk : k < l.length
 ·repeat' ((conv => whnf) <;> (first | refine zM ?_ | refine zW ?_ | intro _ | exact zF | refine Br.tt ?_ | refine Br.ff ?_ | (refine Br.mk (fun h => ?_) (fun h => ?_) <;> (try simp only [sh] at h) <;> try first | (exfalso; omega) | exact absurd trivial h | (simp at h; done)) | refine zA ?_ | refine zN ?_ | refine zO ?_ | refine zP ?_ | refine zB ?_ | refine zL ent131 c1 ?_ | refine zG ent131 (fun h => c1) ?_ | refine Ask.of (Gr.eqlS rfl rfl rfl rfl (eqs47 _ _ _ _ _ _)) ?_ | refine Ask.of (Gr.neqS rfl rfl rfl rfl (eqs47 _ _ _ _ _ _)) ?_ | refine Ask.of (Gr.eqlS rfl rfl rfl rfl (eqs28 _ _ _ _)) ?_ | refine Ask.of (Gr.neqS rfl rfl rfl rfl (eqs28 _ _ _ _)) ?_ | refine Ask.of (Gr.eqlS rfl rfl rfl rfl (eqs188 _ _ _ _)) ?_ | refine Ask.of (Gr.neqS rfl rfl rfl rfl (eqs188 _ _ _ _)) ?_ | refine Ask.of (Gr.eqlS rfl rfl rfl rfl (eqs68 _ _ _ _ _ _ _ _)) ?_ | refine Ask.of (Gr.neqS rfl rfl rfl rfl (eqs68 _ _ _ _ _ _ _ _)) ?_ | refine lB ?_ | refine lBA ?_ | refine zK ?_ | refine s1 ?_ | refine sA ?_ | refine zC ?_ | fail))
  ·(conv => whnf); (refine Nxt.of (k + 1) [5, 6, 7, 8, 9, 10, 11, 12, 13, 14, 15, 16, 17, 18, 19] Qr Qr Qr ?_ ?_ Qy Qs <;> (try dsimp only) <;> (try omega))
   refine ⟨hk, fun x hx => ?_⟩
   rw [List.take_succ_eq_append_getElem hk, List.mem_append, ← getD_at hk, List.mem_singleton] at hx
   rcases hx with hx | rfl
   ·exact i2 x hx
   ·exact h.2
  ·rename_i h5
   conv => whnf
   refine Fin.pure ?_
   rw [fin fun _ => h5.resolve_left (by omega), if_pos ⟨hk, Vi.ext4 h.2.1 h.2.2.1 h.2.2.2.1 h.2.2.2.2⟩]
  ·rename_i h5
   have e : (l.take k ++ v :: l.drop k).map viav = ((l.map viav).take k ++ [viav v]) ++ (l.map viav).drop k := by simp
   repeat' ((conv => whnf) <;> (first | refine CK.anyK (id := 6) [1, 2, 3, 5, 6, 8, 9, 10] [0, 4, 7, 11, 12] _ (List.Sublist.refl _) Qk ?_ | refine zM ?_ | refine zW ?_ | intro _ | exact zF | refine Br.tt ?_ | refine Br.ff ?_ | (refine Br.mk (fun h => ?_) (fun h => ?_) <;> (try simp only [sh] at h) <;> try first | (exfalso; omega) | exact absurd trivial h | (simp at h; done)) | refine zA ?_ | refine zN ?_ | refine zO ?_ | refine zP ?_ | refine zB ?_ | refine lB ?_ | refine lBA ?_ | refine zK ?_ | refine s1 ?_ | refine sA ?_ | refine LK.gr (Gr.bslV rfl rfl rfl rfl) ?_ | refine Ask.of (Gr.bslV rfl rfl rfl rfl) ?_ | refine Kx.nil ?_ | refine Kx.stp rfl rfl Qs ?_ | refine kA ?_ | (refine Kx.frzR 0 rfl ?_ <;> refine kF ?_) | refine kP ?_ | refine k1 ?_ | refine kB ?_ | refine kL ?_ | refine zC ?_ | refine zD ?_ | fail))
   rw [fin fun _ => h5.resolve_left (by omega), if_neg (fun h6 => by rw [h6.2] at h; simp at h; omega), e]
   conv => whnf
   refine Fin.frzR 0 rfl ?_
   exact Fin.seeP Qz
 ·repeat' ((conv => whnf) <;> (first | refine zM ?_ | refine zW ?_ | intro _ | exact zF | refine Br.tt ?_ | refine Br.ff ?_ | (refine Br.mk (fun h => ?_) (fun h => ?_) <;> (try simp only [sh] at h) <;> try first | (exfalso; omega) | exact absurd trivial h | (simp at h; done)) | refine zA ?_ | refine zN ?_ | refine zO ?_ | refine zP ?_ | refine zB ?_ | refine zL ent131 c1 ?_ | refine zG ent131 (fun h => c1) ?_ | refine Ask.of (Gr.eqlS rfl rfl rfl rfl (eqs47 _ _ _ _ _ _)) ?_ | refine Ask.of (Gr.neqS rfl rfl rfl rfl (eqs47 _ _ _ _ _ _)) ?_ | refine Ask.of (Gr.eqlS rfl rfl rfl rfl (eqs28 _ _ _ _)) ?_ | refine Ask.of (Gr.neqS rfl rfl rfl rfl (eqs28 _ _ _ _)) ?_ | refine Ask.of (Gr.eqlS rfl rfl rfl rfl (eqs188 _ _ _ _)) ?_ | refine Ask.of (Gr.neqS rfl rfl rfl rfl (eqs188 _ _ _ _)) ?_ | refine Ask.of (Gr.eqlS rfl rfl rfl rfl (eqs68 _ _ _ _ _ _ _ _)) ?_ | refine Ask.of (Gr.neqS rfl rfl rfl rfl (eqs68 _ _ _ _ _ _ _ _)) ?_ | refine lB ?_ | refine lBA ?_ | refine zK ?_ | refine s1 ?_ | refine sA ?_ | refine zC ?_ | fail))
  have e : (l.take k ++ v :: l.drop k).map viav = ((l.map viav).take k ++ [viav v]) ++ (l.map viav).drop k := by simp
  repeat' ((conv => whnf) <;> (first | refine CK.anyK (id := 6) [1, 2, 3, 5, 6, 8, 9, 10] [0, 4, 7, 11, 12] _ (List.Sublist.refl _) Qk ?_ | refine zM ?_ | refine zW ?_ | intro _ | exact zF | refine Br.tt ?_ | refine Br.ff ?_ | (refine Br.mk (fun h => ?_) (fun h => ?_) <;> (try simp only [sh] at h) <;> try first | (exfalso; omega) | exact absurd trivial h | (simp at h; done)) | refine zA ?_ | refine zN ?_ | refine zO ?_ | refine zP ?_ | refine zB ?_ | refine lB ?_ | refine lBA ?_ | refine zK ?_ | refine s1 ?_ | refine sA ?_ | refine LK.gr (Gr.bslV rfl rfl rfl rfl) ?_ | refine Ask.of (Gr.bslV rfl rfl rfl rfl) ?_ | refine Kx.nil ?_ | refine Kx.stp rfl rfl Qs ?_ | refine kA ?_ | (refine Kx.frzR 0 rfl ?_ <;> refine kF ?_) | refine kP ?_ | refine k1 ?_ | refine kB ?_ | refine kL ?_ | refine zC ?_ | refine zD ?_ | fail))
  rw [fin fun h => absurd h hk, if_neg (fun h6 => hk h6.1), e]
  conv => whnf
  refine Fin.frzR 0 rfl ?_
  exact Fin.seeP Qz
set_option maxHeartbeats 4000000 in
theorem v8sum_ok (p : Pl) (mine : List Nat) (frm to_ : Int) (m : Nat) (hv : validP p = true) (hm : ∀ d ∈ mine, d < p.duties.length) (hl : mine.length ≤ 1000) (hs : Small p) (hm7 : m ≤ 7) (hf : 0 ≤ frm ∧ frm ≤ 100000) (ht : to_ = frm + m - 1) :
  FnA Tryz.prog 114 [.agg (pcs p), .sl 1 (mine.map In), I frm, I to_] (.tup [I (mine.map fun d => kd p d frm m).sum, I (lowF (fun d => kd p d frm m) mine), I (highF (fun d => kd p d frm m) mine)]) := by
 have hlm : (mine.map In).length = mine.length := by simp
 refine fn_run (T := tab) Tryz.func114 rfl Tryz.ntmps114 rfl Tryz.results114 (fun _ => ?_)
 repeat' ((conv => whnf) <;> (first | refine zM ?_ | refine zW ?_ | intro _ | exact zF | refine Br.tt ?_ | refine Br.ff ?_ | (refine Br.mk (fun h => ?_) (fun h => ?_) <;> (try simp only [sh] at h) <;> try first | (exfalso; omega) | exact absurd trivial h | (simp at h; done)) | refine zA ?_ | refine zN ?_ | refine zO ?_ | refine zP ?_ | refine zB ?_ | refine lB ?_ | refine lBA ?_ | refine zK ?_ | refine s1 ?_ | refine sA ?_ | refine zC ?_ | fail))
 (conv => whnf); refine CK.loop [11, 12, 13, 14, 15, 16, 17, 18, 19, 20, 21, 22, 23, 24, 25, 26, 27, 28, 29, 30, 31, 32, 33, 34, 35, 36, 37, 38, 39, 40, 41, 42, 43, 44, 45, 46, 47, 48, 49, 50, 51, 52] (σ := Nat × Int × Int × Int) (fun s => s.1 ≤ mine.length ∧ s.2.1 = ((mine.take s.1).map fun d => kd p d frm m).sum ∧ s.2.2.1 = lowF (fun d => kd p d frm m) (mine.take s.1) ∧ s.2.2.2 = highF (fun d => kd p d frm m) (mine.take s.1) ∧ 0 ≤ s.2.1 ∧ s.2.1 ≤ 30000000 * s.1) (fun ⟨i, n, lo, hi⟩ => [(14, I i), (11, I n), (12, I lo), (13, I hi)]) (fun _ => _) (fun s => mine.length - s.1) (0, 0, -1, -1) ⟨Nat.zero_le _, by simp, by simp [lowF], by simp [highF], by simp, by simp⟩ Qy (List.Sublist.refl _) ?_
 conv => whnf
 rintro ⟨i, n, lo, hi⟩ ⟨i1, i2, i3, i4, i5, i6⟩
 simp only at i1 i2 i3 i4 i5 i6
 by_cases hil : i < mine.length
 ·have hd := hm _ (getD_mem hil)
  have htk := List.take_succ_eq_append_getElem hil
  rw [← getD_at hil] at htk
  have hsn : ((mine.take (i + 1)).map fun d => kd p d frm m).sum = n + kd p (mine.getD i default) frm m := by rw [htk, List.map_append, List.sum_append, i2]; simp
  have hlo := lowF_snoc (fun d => kd p d frm m) (mine.take i) (mine.getD i default)
  have hhi := highF_snoc (fun d => kd p d frm m) (mine.take i) (mine.getD i default)
  rw [← htk, ← i3] at hlo
  rw [← htk, ← i4] at hhi
  repeat' ((conv => whnf) <;> (first | refine zM ?_ | refine zW ?_ | intro _ | exact zF | refine Br.tt ?_ | refine Br.ff ?_ | (refine Br.mk (fun h => ?_) (fun h => ?_) <;> (try simp only [sh] at h) <;> try first | (exfalso; omega) | exact absurd trivial h | (simp at h; done)) | refine zA ?_ | refine zN ?_ | refine zO ?_ | refine zP ?_ | refine zB ?_ | refine lB ?_ | refine lBA ?_ | refine zK ?_ | refine s1 ?_ | refine sA ?_ | refine zC ?_ | fail))
  (conv => whnf); refine CK.loop [15, 16, 24, 25, 26, 27, 28, 29, 30, 31, 32, 33, 34, 35, 36, 37] (σ := Int × Int) (fun s => frm ≤ s.1 ∧ s.1 ≤ frm + m ∧ s.2 = kd p (mine.getD i default) frm (s.1 - frm).toNat) (fun ⟨day, k⟩ => [(16, I day), (15, I k)]) (fun _ => _) (fun s => (frm + m - s.1).toNat) (frm, 0) ⟨Int.le_refl _, by omega, by simp [kd_zero]⟩ Qy (List.Sublist.refl _) ?_
  conv => whnf
  rintro ⟨day, k⟩ ⟨j1, j2, j3⟩
  simp only at j1 j2 j3
  have hb1 := kd_bd hv hd frm (day - frm).toNat
  have hb2 := kd_nn p (mine.getD i default) frm (day - frm).toNat
  rw [← j3] at hb1 hb2
  by_cases hday : day < frm + m
  ·have c1 := v8on_ok p (mine.getD i default) day hv hd hs
   have hb3 := onP_bd hv hd day
   have hb4 := onP_nn p (mine.getD i default) day
   have hks := kd_succ p (mine.getD i default) frm (day - frm).toNat
   rw [show frm + ((day - frm).toNat : Int) = day by omega, ← j3] at hks
   repeat' ((conv => whnf) <;> (first | refine zM ?_ | refine zW ?_ | intro _ | exact zF | refine Br.tt ?_ | refine Br.ff ?_ | (refine Br.mk (fun h => ?_) (fun h => ?_) <;> (try simp only [sh] at h) <;> try first | (exfalso; omega) | exact absurd trivial h | (simp at h; done)) | refine zA ?_ | refine zN ?_ | refine zO ?_ | refine zP ?_ | refine zB ?_ | refine zL ent132 c1 ?_ | refine zG ent132 (fun h => c1) ?_ | refine lB ?_ | refine lBA ?_ | refine zK ?_ | refine s1 ?_ | refine sA ?_ | refine zC ?_ | fail))
   (conv => whnf); (refine Nxt.of ((day + 1, k + onP p (mine.getD i default) day)) [15, 16, 24, 25, 26, 27, 28, 29, 30, 31, 32, 33, 34, 35, 36, 37] Qr Qr Qr ?_ ?_ Qy Qs <;> (try dsimp only) <;> (try omega))
   rw [show (day + 1 - frm).toNat = (day - frm).toNat + 1 by omega, hks]
   exact ⟨by omega, by omega, rfl⟩
  ·rw [show (day - frm).toNat = m by omega] at j3
   rw [← j3] at hsn hlo hhi
   repeat' ((conv => whnf) <;> (first | refine zM ?_ | refine zW ?_ | intro _ | exact zF | refine Br.tt ?_ | refine Br.ff ?_ | (refine Br.mk (fun h => ?_) (fun h => ?_) <;> (try simp only [sh] at h) <;> try first | (exfalso; omega) | exact absurd trivial h | (simp at h; done)) | refine zA ?_ | refine zN ?_ | refine zO ?_ | refine zP ?_ | refine zB ?_ | refine lB ?_ | refine lBA ?_ | refine zK ?_ | refine s1 ?_ | refine sA ?_ | refine zC ?_ | fail))
   ·(conv => whnf); (refine Nxt.of ((i + 1, n + k, ((mine.getD i default : Nat) : Int), ((mine.getD i default : Nat) : Int))) [11, 12, 13, 14, 15, 16, 17, 18, 19, 20, 21, 22, 23, 24, 25, 26, 27, 28, 29, 30, 31, 32, 33, 34, 35, 36, 37, 38, 39, 40, 41, 42, 43, 44, 45, 46, 47, 48, 49, 50, 51, 52] Qr Qr Qr ?_ ?_ Qy Qs <;> (try dsimp only) <;> (try omega))
   ·(conv => whnf); (refine Nxt.of ((i + 1, n + k, lo, ((mine.getD i default : Nat) : Int))) [11, 12, 13, 14, 15, 16, 17, 18, 19, 20, 21, 22, 23, 24, 25, 26, 27, 28, 29, 30, 31, 32, 33, 34, 35, 36, 37, 38, 39, 40, 41, 42, 43, 44, 45, 46, 47, 48, 49, 50, 51, 52] Qr Qr Qr ?_ ?_ Qy Qs <;> (try dsimp only) <;> (try omega))
   ·(conv => whnf); (refine Nxt.of ((i + 1, n + k, lo, hi)) [11, 12, 13, 14, 15, 16, 17, 18, 19, 20, 21, 22, 23, 24, 25, 26, 27, 28, 29, 30, 31, 32, 33, 34, 35, 36, 37, 38, 39, 40, 41, 42, 43, 44, 45, 46, 47, 48, 49, 50, 51, 52] Qr Qr Qr ?_ ?_ Qy Qs <;> (try dsimp only) <;> (try omega))
 ·rw [List.take_of_length_le (by omega)] at i2 i3 i4
  repeat' ((conv => whnf) <;> (first | refine zM ?_ | refine zW ?_ | intro _ | exact zF | refine Br.tt ?_ | refine Br.ff ?_ | (refine Br.mk (fun h => ?_) (fun h => ?_) <;> (try simp only [sh] at h) <;> try first | (exfalso; omega) | exact absurd trivial h | (simp at h; done)) | refine zA ?_ | refine zN ?_ | refine zO ?_ | refine zP ?_ | refine zB ?_ | refine lB ?_ | refine lBA ?_ | refine zK ?_ | refine s1 ?_ | refine sA ?_ | refine zC ?_ | fail))
  conv => whnf
  exact Fin.pure (by rw [i2, i3, i4])
set_option maxHeartbeats 4000000 in
theorem v8days_ok (p : Pl) (mine : List Nat) (hv : validP p = true) (hm : ∀ d ∈ mine, d < p.duties.length) (hl : mine.length ≤ 1000) (hs : Small p) :
  FnA Tryz.prog 113 [.agg (pcs p), .sl 1 (mine.map In)] (.sl 1 (((trip p mine).map (·.2.1)).map I)) := by
 have hlm : (mine.map In).length = mine.length := by simp
 have hsd := hs.du
 have hld : (p.duties.map duav).length = p.duties.length := by simp
 have htl := trip_len (p := p) (mine := mine) fun d hd => (mins_bdR hv (hm d hd)).1
 refine fn_run (T := tab) Tryz.func113 rfl Tryz.ntmps113 rfl Tryz.results113 (fun _ => ?_)
 repeat' ((conv => whnf) <;> (first | refine zM ?_ | refine zW ?_ | intro _ | exact zF | refine Br.tt ?_ | refine Br.ff ?_ | (refine Br.mk (fun h => ?_) (fun h => ?_) <;> (try simp only [sh] at h) <;> try first | (exfalso; omega) | exact absurd trivial h | (simp at h; done)) | refine zA ?_ | refine zN ?_ | refine zO ?_ | refine zP ?_ | refine zB ?_ | refine lB ?_ | refine lBA ?_ | refine zK ?_ | refine s1 ?_ | refine sA ?_ | refine zC ?_ | fail))
 refine CK.nilrow 3 1 ?_
 (conv => whnf); refine CK.loopK [5, 6, 7, 8, 9, 10, 11, 12, 13, 14, 15, 16, 17, 18, 19, 20, 21, 22, 23, 24, 25, 26, 27, 28, 29, 30, 31, 32, 33, 34, 35, 36, 37, 38, 39, 40, 41, 42, 43] (σ := Nat × Value) (fun s => s.1 ≤ mine.length) (fun ⟨i, v⟩ => [(6, I i), (5, .v v)]) (fun ⟨i, v⟩ => [.row v 3 1 0 false (((trip p (mine.take i)).map (·.2.1)).map I)]) _ (fun s => mine.length - s.1) (0, .slice none 0 0) (Nat.zero_le _) Qy Qs ?_
 conv => whnf
 rintro ⟨i, v⟩ i1
 simp only at i1
 by_cases hil : i < mine.length
 ·have hd := hm _ (getD_mem hil)
  have hok := List.all_eq_true.1 (validP_iff.1 hv).2.2.2.1 _ (getD_mem (l := p.duties) hd)
  have c1 := e7Minutes_ok p (p.duties.getD (mine.getD i default) default) (validP_iff.1 hv).1
  rw [if_pos hok, if_pos hok] at c1
  have hts := trip_snoc (p := p) hil
  have htl2 := trip_len (p := p) (mine := mine.take i) fun d hd => (mins_bdR hv (hm d (List.mem_of_mem_take hd))).1
  rw [List.length_take] at htl2
  have hq4 := (mins_bdR hv hd).1
  dsimp only
  generalize minsD p (p.duties.getD (mine.getD i default) default) = l at *
  generalize trip p (mine.take i) = T0 at *
  have hll : (l.map ptav).length = l.length := by simp
  repeat' ((conv => whnf) <;> (first | refine zM ?_ | refine zW ?_ | intro _ | exact zF | refine Br.tt ?_ | refine Br.ff ?_ | (refine Br.mk (fun h => ?_) (fun h => ?_) <;> (try simp only [sh] at h) <;> try first | (exfalso; omega) | exact absurd trivial h | (simp at h; done)) | refine zA ?_ | refine zN ?_ | refine zO ?_ | refine zP ?_ | refine zB ?_ | refine zL ent46 c1 ?_ | refine zG ent46 (fun h => c1) ?_ | refine lB ?_ | refine lBA ?_ | refine zK ?_ | refine s1 ?_ | refine sA ?_ | refine zC ?_ | fail))
  (conv => whnf); refine CK.loopK [5, 9, 30, 31, 32, 33, 34, 35, 36, 37, 38, 39, 40, 41, 42, 43] (σ := Nat × Value) (fun s => s.1 ≤ l.length) (fun ⟨k, v⟩ => [(9, I k), (5, .v v)]) (fun ⟨k, v⟩ => [.row v 3 1 0 false ((T0.map (·.2.1) ++ (l.take k).map (·.1)).map I)]) _ (fun s => l.length - s.1) (0, v) (Nat.zero_le _) Qy (by simp only [List.take_zero, List.map_nil, List.append_nil]; exact Qs) ?_
  conv => whnf
  rintro ⟨k, v1⟩ j1
  simp only at j1
  have hlr : ((T0.map (·.2.1) ++ (l.take k).map (·.1)).map I).length ≤ 10000 := by rw [List.length_map, List.length_append, List.length_map, List.length_map, List.length_take]; omega
  by_cases hk : k < l.length
  ·repeat' ((conv => whnf) <;> (first | refine zM ?_ | refine zW ?_ | intro _ | exact zF | refine Br.tt ?_ | refine Br.ff ?_ | (refine Br.mk (fun h => ?_) (fun h => ?_) <;> (try simp only [sh] at h) <;> try first | (exfalso; omega) | exact absurd trivial h | (simp at h; done)) | refine zA ?_ | refine zN ?_ | refine zO ?_ | refine zP ?_ | refine zB ?_ | refine lB ?_ | refine lBA ?_ | refine zK ?_ | refine s1 ?_ | refine sA ?_ | refine pS ?_ | refine LK.gr (Gr.bslV rfl rfl rfl rfl) ?_ | refine Ask.of (Gr.bslV rfl rfl rfl rfl) ?_ | refine zC ?_ | refine zD ?_ | fail))
   rename_i A B' C
   (conv => whnf); (refine Nxt.of ((k + 1, Value.slice A B' C)) [5, 9, 30, 31, 32, 33, 34, 35, 36, 37, 38, 39, 40, 41, 42, 43] Qr Qr Qr ?_ ?_ Qy ?_ <;> (try dsimp only) <;> (try omega))
   have e : (T0.map (·.2.1) ++ (l.take (k + 1)).map (·.1)).map I = (T0.map (·.2.1) ++ (l.take k).map (·.1)).map I ++ [I (l.getD k default).1] := by
    rw [List.take_succ_eq_append_getElem hk, ← getD_at hk]
    simp
   rw [e]
   exact Qs
  ·repeat' ((conv => whnf) <;> (first | refine zM ?_ | refine zW ?_ | intro _ | exact zF | refine Br.tt ?_ | refine Br.ff ?_ | (refine Br.mk (fun h => ?_) (fun h => ?_) <;> (try simp only [sh] at h) <;> try first | (exfalso; omega) | exact absurd trivial h | (simp at h; done)) | refine zA ?_ | refine zN ?_ | refine zO ?_ | refine zP ?_ | refine zB ?_ | refine lB ?_ | refine lBA ?_ | refine zK ?_ | refine s1 ?_ | refine sA ?_ | refine zC ?_ | fail))
   (conv => whnf); (refine Nxt.of ((i + 1, v1)) [5, 6, 7, 8, 9, 10, 11, 12, 13, 14, 15, 16, 17, 18, 19, 20, 21, 22, 23, 24, 25, 26, 27, 28, 29, 30, 31, 32, 33, 34, 35, 36, 37, 38, 39, 40, 41, 42, 43] Qr Qr Qr ?_ ?_ Qy ?_ <;> (try dsimp only) <;> (try omega))
   have e0 : l.take k = l := List.take_of_length_le (by omega)
   rw [e0, hts]
   have e : ((T0 ++ l.map fun q => (mine.getD i default, q.1, q.2)).map (·.2.1)) = T0.map (·.2.1) ++ l.map (·.1) := by
    rw [List.map_append, List.map_map]; rfl
   rw [e]
   exact Qs
 ·dsimp only
  rw [List.take_of_length_le (by omega)]
  repeat' ((conv => whnf) <;> (first | refine zM ?_ | refine zW ?_ | intro _ | exact zF | refine Br.tt ?_ | refine Br.ff ?_ | (refine Br.mk (fun h => ?_) (fun h => ?_) <;> (try simp only [sh] at h) <;> try first | (exfalso; omega) | exact absurd trivial h | (simp at h; done)) | refine zA ?_ | refine zN ?_ | refine zO ?_ | refine zP ?_ | refine zB ?_ | refine lB ?_ | refine lBA ?_ | refine zK ?_ | refine s1 ?_ | refine sA ?_ | refine zC ?_ | fail))
  conv => whnf
  refine Fin.frzR 0 rfl ?_
  exact Fin.seeP Qz
theorem v8Mine_ok (ro : List Int) (w : Nat) (hl : ro.length ≤ 100000) : FnA Tryz.prog 85 [.sl 1 (ro.map I), In w] (.sl 1 ((mineR ro w).map In)) := by
 have hlr : (ro.map I).length = ro.length := by simp
 refine fn_run (T := tab) Tryz.func85 rfl Tryz.ntmps85 rfl Tryz.results85 (fun _ => ?_)
 repeat' ((conv => whnf) <;> (first | refine zM ?_ | refine zW ?_ | intro _ | exact zF | refine Br.tt ?_ | refine Br.ff ?_ | (refine Br.mk (fun h => ?_) (fun h => ?_) <;> (try simp only [sh] at h) <;> try first | (exfalso; omega) | exact absurd trivial h | (simp at h; done)) | refine zA ?_ | refine zN ?_ | refine zO ?_ | refine zP ?_ | refine zB ?_ | refine lB ?_ | refine lBA ?_ | refine zK ?_ | refine s1 ?_ | refine sA ?_ | refine zC ?_ | fail))
 refine CK.nilrow 3 1 ?_
 (conv => whnf); refine CK.loopK [5, 6, 7, 8, 9, 10, 11, 12, 13, 14, 15, 16, 17, 18, 19, 20, 21, 22] (σ := Nat × Value) (fun s => s.1 ≤ ro.length) (fun ⟨i, v⟩ => [(6, I i), (5, .v v)]) (fun ⟨i, v⟩ => [.row v 3 1 0 false (((List.range i).filter fun i => decide (ro.getD i default = w)).map In)]) _ (fun s => ro.length - s.1) (0, .slice none 0 0) (Nat.zero_le _) Qy Qs ?_
 conv => whnf
 rintro ⟨i, v⟩ i1
 simp only at i1
 have hfl := List.length_filter_le (fun i => decide (ro.getD i default = (w : Int))) (List.range i)
 rw [List.length_range] at hfl
 have hlm : (((List.range i).filter fun i => decide (ro.getD i default = w)).map In).length ≤ 100000 := by rw [List.length_map]; omega
 have hsn : ((List.range (i + 1)).filter fun i => decide (ro.getD i default = w)) = ((List.range i).filter fun i => decide (ro.getD i default = w)) ++ if ro.getD i default = w then [i] else [] := by
  rw [List.range_succ, List.filter_append, List.filter_cons]
  by_cases e : ro.getD i default = w
  ·rw [if_pos (decide_eq_true e), if_pos e]; rfl
  ·rw [if_neg (by simpa using e), if_neg e]; rfl
 by_cases hi : i < ro.length
 ·repeat' ((conv => whnf) <;> (first | refine zM ?_ | refine zW ?_ | intro _ | exact zF | refine Br.tt ?_ | refine Br.ff ?_ | (refine Br.mk (fun h => ?_) (fun h => ?_) <;> (try simp only [sh] at h) <;> try first | (exfalso; omega) | exact absurd trivial h | (simp at h; done)) | refine zA ?_ | refine zN ?_ | refine zO ?_ | refine zP ?_ | refine zB ?_ | refine lB ?_ | refine lBA ?_ | refine zK ?_ | refine s1 ?_ | refine sA ?_ | refine pS ?_ | refine LK.gr (Gr.bslV rfl rfl rfl rfl) ?_ | refine Ask.of (Gr.bslV rfl rfl rfl rfl) ?_ | refine zC ?_ | refine zD ?_ | fail))
  ·rename_i A B' C
   (conv => whnf); (refine Nxt.of ((i + 1, Value.slice A B' C)) [5, 6, 7, 8, 9, 10, 11, 12, 13, 14, 15, 16, 17, 18, 19, 20, 21, 22] Qr Qr Qr ?_ ?_ Qy ?_ <;> (try dsimp only) <;> (try omega))
   rw [hsn, if_pos h, List.map_append]
   exact Qs
  ·(conv => whnf); (refine Nxt.of ((i + 1, v)) [5, 6, 7, 8, 9, 10, 11, 12, 13, 14, 15, 16, 17, 18, 19, 20, 21, 22] Qr Qr Qr ?_ ?_ Qy ?_ <;> (try dsimp only) <;> (try omega))
   rw [hsn, if_neg h]
   simp only [List.append_nil]
   exact Qs
 ·have ei : i = ro.length := by omega
  subst ei
  repeat' ((conv => whnf) <;> (first | refine zM ?_ | refine zW ?_ | intro _ | exact zF | refine Br.tt ?_ | refine Br.ff ?_ | (refine Br.mk (fun h => ?_) (fun h => ?_) <;> (try simp only [sh] at h) <;> try first | (exfalso; omega) | exact absurd trivial h | (simp at h; done)) | refine zA ?_ | refine zN ?_ | refine zO ?_ | refine zP ?_ | refine zB ?_ | refine lB ?_ | refine lBA ?_ | refine zK ?_ | refine s1 ?_ | refine sA ?_ | refine zC ?_ | fail))
  conv => whnf
  refine Fin.frzR 0 rfl ?_
  exact Fin.seeP Qz
theorem nightD_nn {p : Pl} {d : Du} (h : duB d = true) : 0 ≤ nightD p d := by
 have hb := duB_bd h
 unfold nightD dStr
 rw [winZ_cnt p.zone p.lim.night (by omega)]
 exact (cnt_bd _ (by omega)).1
theorem lim_night {p : Pl} (hv : validP p = true) : 0 ≤ p.lim.night.1 ∧ p.lim.night.1 ≤ 1440 ∧ 0 ≤ p.lim.night.2 ∧ p.lim.night.2 ≤ 1440 := by
 have h := (validP_iff.1 hv).2.2.2.2.2
 unfold limOk inB at h
 simp only [Bool.and_eq_true, decide_eq_true_eq] at h
 omega
theorem insAll_ite {c : Prop} [Decidable c] (out : List Vi) (v : Vi) (l : List Vi) : insAll out ((if c then [v] else []) ++ l) = insAll (if c then insV v out else out) l := by
 by_cases h : c
 ·rw [if_pos h, if_pos h]; rfl
 ·rw [if_neg h, if_neg h]; rfl
theorem insAll_ite1 {c : Prop} [Decidable c] (out : List Vi) (v : Vi) : insAll out (if c then [v] else []) = if c then insV v out else out := by
 by_cases h : c
 ·rw [if_pos h, if_pos h]; rfl
 ·rw [if_neg h, if_neg h]; rfl
set_option maxRecDepth 4000 in
set_option maxHeartbeats 8000000 in
theorem v8single_ok (p : Pl) (w d : Nat) (out : List Vi) (hv : validP p = true) (hd : d < p.duties.length) (hw : w < p.workers.length) (hs : Small p) (ho : out.length ≤ 100000) :
  FnA Tryz.prog 110 [.agg (pcs p), In w, In d, .sl 4 (out.map viav)] (.sl 4 ((insAll out (singR p w d)).map viav)) := by
 have hdok := List.all_eq_true.1 (validP_iff.1 hv).2.2.2.1 _ (getD_mem hd)
 have hwok := wkOk_iff.1 (List.all_eq_true.1 (validP_iff.1 hv).2.2.2.2.1 _ (getD_mem hw))
 have hdu : duB (p.duties.getD d default) = true := by
  unfold dutyOk at hdok
  exact (Bool.and_eq_true_iff.1 hdok).1
 have hdb := duB_bd hdu
 have hskw : 0 ≤ (p.workers.getD w default).skill ∧ (p.workers.getD w default).skill ≤ 65535 := by
  have := hwok.1
  unfold inB at this
  simpa using this
 have hld : (p.duties.map duav).length = p.duties.length := by simp
 have hlw : (p.workers.map wkav).length = p.workers.length := by simp
 have hsd := hs.du
 have hsw := hs.wk
 have c2 := e4Meet_ok (p.workers.getD w default).away ((p.duties.getD d default).frm, (p.duties.getD d default).to_) (by have := hwok.2.2.1; omega) hwok.2.2.2.1 (by
  unfold prp
  simp only [Bool.and_eq_true, decide_eq_true_eq]
  omega)
 have c3 := e7Night_ok p (p.duties.getD d default) (validP_iff.1 hv).1 hdu (lim_night hv)
 have hnn := nightD_nn (p := p) hdu
 have hl1 := insV_len' (⟨1, w, d, -1⟩ : Vi) out
 have hl2 := fun o : List Vi => insV_len' (⟨2, w, d, -1⟩ : Vi) o
 have hand : (p.duties.getD d default).skill.toNat &&& (p.workers.getD w default).skill.toNat ≤ (p.duties.getD d default).skill.toNat := Nat.and_le_left
 have e : insAll out (singR p w d) = (if (p.workers.getD w default).minor = true ∧ niB p (p.duties.getD d default) = true then insV ⟨5, w, d, -1⟩ (if awB (p.workers.getD w default) (p.duties.getD d default) = true then insV ⟨2, w, d, -1⟩ (if skB (p.workers.getD w default) (p.duties.getD d default) = true then insV ⟨1, w, d, -1⟩ out else out) else (if skB (p.workers.getD w default) (p.duties.getD d default) = true then insV ⟨1, w, d, -1⟩ out else out))
   else (if awB (p.workers.getD w default) (p.duties.getD d default) = true then insV ⟨2, w, d, -1⟩ (if skB (p.workers.getD w default) (p.duties.getD d default) = true then insV ⟨1, w, d, -1⟩ out else out) else (if skB (p.workers.getD w default) (p.duties.getD d default) = true then insV ⟨1, w, d, -1⟩ out else out))) := by
  unfold singR
  rw [insAll_ite, insAll_ite, insAll_ite1]
 rw [e]
 have hsk : skB (p.workers.getD w default) (p.duties.getD d default) = true ↔ (((p.duties.getD d default).skill.toNat &&& (p.workers.getD w default).skill.toNat : Nat) : Int) ≠ (p.duties.getD d default).skill := by
  unfold skB
  rw [decide_eq_true_eq]
  omega
 have hni : niB p (p.duties.getD d default) = true ↔ 0 < nightD p (p.duties.getD d default) := by
  unfold niB
  rw [decide_eq_true_eq]
  omega
 have hm : awB (p.workers.getD w default) (p.duties.getD d default) = meetB (p.workers.getD w default).away ((p.duties.getD d default).frm, (p.duties.getD d default).to_) := rfl
 rw [← hm] at c2
 generalize awB (p.workers.getD w default) (p.duties.getD d default) = aw at *
 generalize skB (p.workers.getD w default) (p.duties.getD d default) = sk at *
 generalize niB p (p.duties.getD d default) = ni at *
 clear hm
 have hl12 := hl2 (insV ⟨1, w, d, -1⟩ out)
 have hl2' := hl2 out
 have i1 := v8insert_ok out ⟨1, w, d, -1⟩ (by omega)
 have i2a := v8insert_ok out ⟨2, w, d, -1⟩ (by omega)
 have i2b := v8insert_ok (insV ⟨1, w, d, -1⟩ out) ⟨2, w, d, -1⟩ (by omega)
 have i3a := v8insert_ok out ⟨5, w, d, -1⟩ (by omega)
 have i3b := v8insert_ok (insV ⟨1, w, d, -1⟩ out) ⟨5, w, d, -1⟩ (by omega)
 have i3c := v8insert_ok (insV ⟨2, w, d, -1⟩ out) ⟨5, w, d, -1⟩ (by omega)
 have i3d := v8insert_ok (insV ⟨2, w, d, -1⟩ (insV ⟨1, w, d, -1⟩ out)) ⟨5, w, d, -1⟩ (by omega)
 refine fn_run (T := tab) Tryz.func110 rfl Tryz.ntmps110 rfl Tryz.results110 (fun _ => ?_)
 repeat' ((conv => whnf) <;> (first | refine Ask.of (Gr.andI rfl rfl (by omega) (by omega)) ?_ | refine zM ?_ | refine zW ?_ | intro _ | exact zF | refine Br.tt ?_ | refine Br.ff ?_ | (refine Br.mk (fun h => ?_) (fun h => ?_) <;> (try simp only [sh] at h) <;> try first | (exfalso; omega) | exact absurd trivial h | (simp at h; done)) | refine zA ?_ | refine zN ?_ | refine zO ?_ | refine zP ?_ | refine zB ?_ | refine zL ent112 i1 ?_ | refine zG ent112 (fun h => i1) ?_ | refine zL ent112 i2a ?_ | refine zG ent112 (fun h => i2a) ?_ | refine zL ent112 i2b ?_ | refine zG ent112 (fun h => i2b) ?_ | refine zL ent112 i3a ?_ | refine zG ent112 (fun h => i3a) ?_ | refine zL ent112 i3b ?_ | refine zG ent112 (fun h => i3b) ?_ | refine zL ent112 i3c ?_ | refine zG ent112 (fun h => i3c) ?_ | refine zL ent112 i3d ?_ | refine zG ent112 (fun h => i3d) ?_ | (refine LK.call ent129 (c2) rfl rfl Ql (fun _ _ hcall => ?_) <;> obtain ⟨rfl, m, rfl, hm⟩ := hcall) | refine zL ent130 c3 ?_ | refine zG ent130 (fun h => c3) ?_ | refine lB ?_ | refine lBA ?_ | refine zK ?_ | refine s1 ?_ | refine sA ?_ | refine LK.gr (Gr.bslV rfl rfl rfl rfl) ?_ | refine Ask.of (Gr.bslV rfl rfl rfl rfl) ?_ | refine zC ?_ | refine zD ?_ | fail))
 all_goals (conv => whnf)
 all_goals (refine Fin.pure ?_)
 all_goals (simp only [hsk, hni, ← hm, decide_eq_true_eq])
 all_goals (repeat' split)
 all_goals (first | rfl | (exfalso; omega) | (exfalso; simp_all; done) | (exfalso; simp_all; omega))
theorem flatL_len {α : Type} {f : α → List Vi} {m : Nat} : ∀ {l : List α}, (∀ x ∈ l, (f x).length ≤ m) → (l.flatMap f).length ≤ m * l.length
 | [], _ => by simp
 | x :: l, h => by
  have h1 := h x (by simp)
  have h2 := flatL_len (f := f) (m := m) (l := l) fun y hy => h y (by simp [hy])
  rw [List.flatMap_cons, List.length_append, List.length_cons, Nat.mul_succ]
  omega
theorem singR_len (p : Pl) (w d : Nat) : (singR p w d).length ≤ 3 := by
 unfold singR
 simp only [List.length_append]
 split <;> split <;> split <;> simp
theorem rstR_len (p : Pl) (w d : Nat) (l : List Nat) : (rstR p w d l).length ≤ l.length := by
 unfold rstR
 rw [List.length_map]
 exact List.length_filter_le _ _
theorem dayV_len (p : Pl) (w : Nat) (T : Tri) (day : Int) : (dayV p w T day).length ≤ 2 := by
 unfold dayV
 simp only [List.length_append]
 split <;> split <;> simp
theorem duL_len (p : Pl) (w : Nat) (mine : List Nat) (i : Nat) : (duL p w mine i).length ≤ 3 + mine.length := by
 unfold duL
 have h1 := singR_len p w (mine.getD i default)
 have h2 := rstR_len p w (mine.getD i default) (mine.drop (i + 1))
 rw [List.length_drop] at h2
 rw [List.length_append]
 omega
def preL (p : Pl) (w : Nat) (mine : List Nat) (i : Nat) : List Vi := (List.range i).flatMap (duL p w mine)
theorem preL_succ (p : Pl) (w : Nat) (mine : List Nat) (i : Nat) : preL p w mine (i + 1) = preL p w mine i ++ duL p w mine i := by
 unfold preL
 rw [List.range_succ, List.flatMap_append]
 simp
theorem preL_len (p : Pl) (w : Nat) (mine : List Nat) (hl : mine.length ≤ 24) : ∀ i, (preL p w mine i).length ≤ 27 * i
 | 0 => by simp [preL]
 | i + 1 => by
  have h1 := preL_len p w mine hl i
  have h2 := duL_len p w mine i
  rw [preL_succ, List.length_append]
  omega
def midL (mine : List Nat) (i k : Nat) : List Nat := (mine.take k).drop (i + 1)
theorem midL_zero (mine : List Nat) (i : Nat) : midL mine i (i + 1) = [] := by
 unfold midL
 rw [List.drop_eq_nil_iff, List.length_take]
 omega
theorem midL_succ {mine : List Nat} {i k : Nat} (h : i < k) (hk : k < mine.length) : midL mine i (k + 1) = midL mine i k ++ [mine.getD k default] := by
 unfold midL
 rw [List.take_succ_eq_append_getElem hk, List.drop_append_of_le_length (by simp; omega), getD_at hk]
theorem midL_len (mine : List Nat) (i k : Nat) : (midL mine i k).length ≤ mine.length := by
 unfold midL
 rw [List.length_drop, List.length_take]
 omega
theorem rstR_snoc (p : Pl) (w d : Nat) (l : List Nat) (e : Nat) : rstR p w d (l ++ [e]) = rstR p w d l ++ if restB p d e = true then [⟨3, w, d, e⟩] else [] := by
 unfold rstR
 rw [List.filter_append, List.filter_cons, List.map_append]
 by_cases h : restB p d e = true
 ·rw [if_pos h, if_pos h]; rfl
 ·rw [if_neg h, if_neg h]; rfl
set_option maxRecDepth 4000 in
set_option maxHeartbeats 8000000 in
theorem v8of_ok (p : Pl) (w : Nat) (mine : List Nat) (out : List Vi) (hv : validP p = true) (hm : ∀ d ∈ mine, d < p.duties.length) (hl : mine.length ≤ 24) (hnd : mine.Nodup) (hw : w < p.workers.length) (hs : Small p) (ho : out.length ≤ 90000) :
  FnA Tryz.prog 84 [.agg (pcs p), In w, .sl 1 (mine.map In), .sl 4 (out.map viav)] (.sl 4 ((insAll out (ofL p w mine)).map viav)) := by
 have hlm : (mine.map In).length = mine.length := by simp
 have hld : (p.duties.map duav).length = p.duties.length := by simp
 have hlw : (p.workers.map wkav).length = p.workers.length := by simp
 have hsd := hs.du
 have hsw := hs.wk
 refine fn_run (T := tab) Tryz.func84 rfl Tryz.ntmps84 rfl Tryz.results84 (fun _ => ?_)
 repeat' ((conv => whnf) <;> (first | refine zM ?_ | refine zW ?_ | intro _ | exact zF | refine Br.tt ?_ | refine Br.ff ?_ | (refine Br.mk (fun h => ?_) (fun h => ?_) <;> (try simp only [sh] at h) <;> try first | (exfalso; omega) | exact absurd trivial h | (simp at h; done)) | refine zA ?_ | refine zN ?_ | refine zO ?_ | refine zP ?_ | refine zB ?_ | refine lB ?_ | refine lBA ?_ | refine zK ?_ | refine s1 ?_ | refine sA ?_ | refine zC ?_ | fail))
 (conv => whnf); refine CK.loop [3, 9, 10, 19, 20, 21, 22, 23, 24, 25, 26, 27, 28, 29, 30, 31, 32, 33, 34, 35, 36, 37, 38, 39, 40, 41, 42, 43, 44, 45, 46, 47, 48, 49, 50, 51, 52, 53, 54, 55, 56, 57, 58, 59, 60, 61, 62, 63, 64, 65, 66, 67, 68, 69, 70, 71, 72, 73] (σ := Nat) (fun i => i ≤ mine.length) (fun i => [(9, I i), (3, .sl 4 ((insAll out (preL p w mine i)).map viav))]) (fun _ => _) (fun i => mine.length - i) 0 (Nat.zero_le _) Qy (List.Sublist.refl _) ?_
 conv => whnf
 rintro i i1
 have hpl := preL_len p w mine hl i
 have hin := insAll_len (preL p w mine i) out
 by_cases hil : i < mine.length
 ·have hd := hm _ (getD_mem hil)
  have c1 := v8single_ok p w (mine.getD i default) (insAll out (preL p w mine i)) hv hd hw hs (by omega)
  rw [← insAll_app] at c1
  have hsl := singR_len p w (mine.getD i default)
  repeat' ((conv => whnf) <;> (first | refine zM ?_ | refine zW ?_ | intro _ | exact zF | refine Br.tt ?_ | refine Br.ff ?_ | (refine Br.mk (fun h => ?_) (fun h => ?_) <;> (try simp only [sh] at h) <;> try first | (exfalso; omega) | exact absurd trivial h | (simp at h; done)) | refine zA ?_ | refine zN ?_ | refine zO ?_ | refine zP ?_ | refine zB ?_ | refine zL ent110 c1 ?_ | refine zG ent110 (fun h => c1) ?_ | refine lB ?_ | refine lBA ?_ | refine zK ?_ | refine s1 ?_ | refine sA ?_ | refine zC ?_ | fail))
  (conv => whnf); refine CK.loop [3, 10, 35, 36, 37, 38, 39, 40, 41, 42, 43, 44, 45, 46, 47, 48, 49, 50, 51, 52, 53, 54, 55, 56, 57, 58, 59, 60, 61, 62, 63, 64, 65, 66, 67, 68, 69, 70, 71, 72, 73] (σ := Nat) (fun k => i < k ∧ k ≤ mine.length) (fun k => [(10, I k), (3, .sl 4 ((insAll out (preL p w mine i ++ singR p w (mine.getD i default) ++ rstR p w (mine.getD i default) (midL mine i k))).map viav))]) (fun _ => _) (fun k => mine.length - k) (i + 1) ⟨by omega, by omega⟩ (by rw [midL_zero]; simp only [rstR, List.filter_nil, List.map_nil, List.append_nil]; exact Qy) (List.Sublist.refl _) ?_
  conv => whnf
  rintro k ⟨j1, j2⟩
  have hrl := rstR_len p w (mine.getD i default) (midL mine i k)
  have hml := midL_len mine i k
  have hin2 := insAll_len (preL p w mine i ++ singR p w (mine.getD i default) ++ rstR p w (mine.getD i default) (midL mine i k)) out
  rw [List.length_append, List.length_append] at hin2
  by_cases hk : k < mine.length
  ·have he := hm _ (getD_mem hk)
   have c2 := e7Rest_ok (p.duties.getD (mine.getD i default) default) (p.duties.getD (mine.getD k default) default)
   have c3 := v8insert_ok (insAll out (preL p w mine i ++ singR p w (mine.getD i default) ++ rstR p w (mine.getD i default) (midL mine i k))) ⟨3, w, (mine.getD i default : Nat), (mine.getD k default : Nat)⟩ (by omega)
   have hms := midL_succ j1 hk
   have hrs := rstR_snoc p w (mine.getD i default) (midL mine i k) (mine.getD k default)
   rw [← hms] at hrs
   repeat' ((conv => whnf) <;> (first | refine zM ?_ | refine zW ?_ | intro _ | exact zF | refine Br.tt ?_ | refine Br.ff ?_ | (refine Br.mk (fun h => ?_) (fun h => ?_) <;> (try simp only [sh] at h) <;> try first | (exfalso; omega) | exact absurd trivial h | (simp at h; done)) | refine zA ?_ | refine zN ?_ | refine zO ?_ | refine zP ?_ | refine zB ?_ | refine zL ent111 c2 ?_ | refine zG ent111 (fun h => c2) ?_ | refine zL ent112 c3 ?_ | refine zG ent112 (fun h => c3) ?_ | refine lB ?_ | refine lBA ?_ | refine zK ?_ | refine s1 ?_ | refine sA ?_ | refine zC ?_ | fail))
   ·have hb : restB p (mine.getD i default) (mine.getD k default) = true := decide_eq_true h
    rw [if_pos hb] at hrs
    have e : insV ⟨3, w, (mine.getD i default : Nat), (mine.getD k default : Nat)⟩ (insAll out (preL p w mine i ++ singR p w (mine.getD i default) ++ rstR p w (mine.getD i default) (midL mine i k))) = insAll out (preL p w mine i ++ singR p w (mine.getD i default) ++ rstR p w (mine.getD i default) (midL mine i (k + 1))) := by
     rw [hrs, ← List.append_assoc]
     exact (insAll_app out (preL p w mine i ++ singR p w (mine.getD i default) ++ rstR p w (mine.getD i default) (midL mine i k)) [⟨3, w, (mine.getD i default : Nat), (mine.getD k default : Nat)⟩]).symm
    rw [e]
    (conv => whnf); (refine Nxt.of (k + 1) [3, 10, 35, 36, 37, 38, 39, 40, 41, 42, 43, 44, 45, 46, 47, 48, 49, 50, 51, 52, 53, 54, 55, 56, 57, 58, 59, 60, 61, 62, 63, 64, 65, 66, 67, 68, 69, 70, 71, 72, 73] Qr Qr Qr ?_ ?_ Qy Qs <;> (try dsimp only) <;> (try omega))
   ·have hb : ¬ restB p (mine.getD i default) (mine.getD k default) = true := fun hb => by
     unfold restB at hb
     rw [decide_eq_true_eq] at hb
     omega
    rw [if_neg hb, List.append_nil] at hrs
    rw [← hrs]
    (conv => whnf); (refine Nxt.of (k + 1) [3, 10, 35, 36, 37, 38, 39, 40, 41, 42, 43, 44, 45, 46, 47, 48, 49, 50, 51, 52, 53, 54, 55, 56, 57, 58, 59, 60, 61, 62, 63, 64, 65, 66, 67, 68, 69, 70, 71, 72, 73] Qr Qr Qr ?_ ?_ Qy Qs <;> (try dsimp only) <;> (try omega))
  ·have ek : midL mine i k = mine.drop (i + 1) := by
    unfold midL
    rw [List.take_of_length_le (by omega)]
   have e : preL p w mine i ++ singR p w (mine.getD i default) ++ rstR p w (mine.getD i default) (mine.drop (i + 1)) = preL p w mine (i + 1) := by
    rw [preL_succ, List.append_assoc]
    rfl
   rw [ek, e]
   repeat' ((conv => whnf) <;> (first | refine zM ?_ | refine zW ?_ | intro _ | exact zF | refine Br.tt ?_ | refine Br.ff ?_ | (refine Br.mk (fun h => ?_) (fun h => ?_) <;> (try simp only [sh] at h) <;> try first | (exfalso; omega) | exact absurd trivial h | (simp at h; done)) | refine zA ?_ | refine zN ?_ | refine zO ?_ | refine zP ?_ | refine zB ?_ | refine lB ?_ | refine lBA ?_ | refine zK ?_ | refine s1 ?_ | refine sA ?_ | refine zC ?_ | fail))
   (conv => whnf); (refine Nxt.of (i + 1) [3, 9, 10, 19, 20, 21, 22, 23, 24, 25, 26, 27, 28, 29, 30, 31, 32, 33, 34, 35, 36, 37, 38, 39, 40, 41, 42, 43, 44, 45, 46, 47, 48, 49, 50, 51, 52, 53, 54, 55, 56, 57, 58, 59, 60, 61, 62, 63, 64, 65, 66, 67, 68, 69, 70, 71, 72, 73] Qr Qr Qr ?_ ?_ Qy Qs <;> (try dsimp only) <;> (try omega))
 ·have ei : i = mine.length := by omega
  subst ei
  have c4 := v8days_ok p mine hv hm (by omega) hs
  have htl := trip_len (p := p) (mine := mine) fun d hd => (mins_bdR hv (hm d hd)).1
  have hdays : ∀ x ∈ (trip p mine).map (·.2.1), 0 ≤ x ∧ x ≤ 36524 := fun x hx => by
   obtain ⟨t, ht, rfl⟩ := List.mem_map.1 hx
   have := trip_mem ht
   exact ((mins_bdR hv (hm _ this.1)).2 _ this.2).2.2
  have hlo := fun day (h : day ∈ (trip p mine).map (·.2.1)) => low_lo (p := p) (mine := mine) h
  have hhi := fun day (h : day ∈ (trip p mine).map (·.2.1)) => high_hi (p := p) hnd h
  have hsu := fun day => sumT_on p day mine
  have hwk := fun day => week7_kd p day mine
  have hdl : ((trip p mine).map (·.2.1)).length ≤ 96 := by rw [List.length_map]; omega
  have efin : insAll out (ofL p w mine) = insAll (insAll out (preL p w mine mine.length)) (((trip p mine).map (·.2.1)).flatMap (dayV p w (trip p mine))) := by
   rw [← insAll_app]; rfl
  rw [efin]
  have c5 := fun day (hd : 0 ≤ day ∧ day ≤ 36524) => v8sum_ok p mine day day 1 hv hm (by omega) hs (by omega) (by omega) (by omega)
  have c6 := fun day (hd : 0 ≤ day ∧ day ≤ 36524) => v8sum_ok p mine day (day + 6) 7 hv hm (by omega) hs (by omega) (by omega) (by omega)
  simp only [kd_one] at c5
  simp only [← hsu] at c5
  simp only [← hwk] at c6
  generalize insAll out (preL p w mine mine.length) = o1 at *
  obtain ⟨dl, hdl0⟩ : ∃ dl, dl = (trip p mine).map (·.2.1) := ⟨_, rfl⟩
  rw [← hdl0] at c4 hdays hlo hhi hdl ⊢
  have hll : (dl.map I).length = dl.length := by simp
  repeat' ((conv => whnf) <;> (first | refine zM ?_ | refine zW ?_ | intro _ | exact zF | refine Br.tt ?_ | refine Br.ff ?_ | (refine Br.mk (fun h => ?_) (fun h => ?_) <;> (try simp only [sh] at h) <;> try first | (exfalso; omega) | exact absurd trivial h | (simp at h; done)) | refine zA ?_ | refine zN ?_ | refine zO ?_ | refine zP ?_ | refine zB ?_ | refine zL ent113 c4 ?_ | refine zG ent113 (fun h => c4) ?_ | refine lB ?_ | refine lBA ?_ | refine zK ?_ | refine s1 ?_ | refine sA ?_ | refine zC ?_ | fail))
  (conv => whnf); refine CK.loop [3, 12, 13, 14, 15, 16, 17, 18, 77, 78, 79, 80, 81, 82, 83, 84, 85, 86, 87, 88, 89, 90, 91, 92, 93, 94, 95, 96, 97, 98, 99, 100, 101, 102, 103, 104, 105, 106, 107, 108, 109, 110, 111, 112, 113, 114, 115, 116, 117, 118, 119, 120, 121, 122, 123, 124, 125, 126, 127, 128, 129, 130, 131, 132, 133, 134, 135, 136, 137, 138, 139, 140, 141, 142, 143, 144, 145] (σ := Nat) (fun j => j ≤ dl.length) (fun j => [(12, I j), (3, .sl 4 ((insAll o1 ((dl.take j).flatMap (dayV p w (trip p mine)))).map viav))]) (fun _ => _) (fun j => dl.length - j) 0 (Nat.zero_le _) Qy (List.Sublist.refl _) ?_
  conv => whnf
  rintro j j1
  have hfl := flatL_len (f := dayV p w (trip p mine)) (m := 2) (l := dl.take j) fun x _ => dayV_len p w _ x
  rw [List.length_take] at hfl
  have hin3 := insAll_len ((dl.take j).flatMap (dayV p w (trip p mine))) o1
  by_cases hjl : j < dl.length
  ·have hday := getD_mem hjl
   have hb := hdays _ hday
   have d5 := c5 _ hb
   have d6 := c6 _ hb
   rw [hlo _ hday] at d5
   have hh := hhi _ hday
   rw [hlo _ hday] at hh
   have hst : insAll o1 ((dl.take (j + 1)).flatMap (dayV p w (trip p mine))) = (if (p.workers.getD w default).minor = true ∧ p.lim.minor < sumT (trip p mine) (dl.getD j default) then insV ⟨6, w, loT (trip p mine) (dl.getD j default), hiT (trip p mine) (dl.getD j default)⟩ (if p.lim.week < week7 (trip p mine) (dl.getD j default) then insV ⟨4, w, loT (trip p mine) (dl.getD j default), -1⟩ (insAll o1 ((dl.take j).flatMap (dayV p w (trip p mine)))) else (insAll o1 ((dl.take j).flatMap (dayV p w (trip p mine)))))
     else (if p.lim.week < week7 (trip p mine) (dl.getD j default) then insV ⟨4, w, loT (trip p mine) (dl.getD j default), -1⟩ (insAll o1 ((dl.take j).flatMap (dayV p w (trip p mine)))) else (insAll o1 ((dl.take j).flatMap (dayV p w (trip p mine)))))) := by
    rw [List.take_succ_eq_append_getElem hjl, List.flatMap_append, insAll_app, ← getD_at hjl]
    simp only [List.flatMap_cons, List.flatMap_nil, List.append_nil]
    unfold dayV
    rw [insAll_ite, insAll_ite1]
   generalize insAll o1 ((dl.take j).flatMap (dayV p w (trip p mine))) = o2 at *
   generalize highF (fun d => onP p d (dl.getD j default)) mine = H1 at *
   have l4 := insV_len' ⟨4, w, loT (trip p mine) (dl.getD j default), -1⟩ o2
   have s11 : (p.workers.getD w default).minor = true ∧ p.lim.minor < sumT (trip p mine) (dl.getD j default) → p.lim.week < week7 (trip p mine) (dl.getD j default) → insV ⟨6, w, loT (trip p mine) (dl.getD j default), hiT (trip p mine) (dl.getD j default)⟩ (insV ⟨4, w, loT (trip p mine) (dl.getD j default), -1⟩ o2) = insAll o1 ((dl.take (j + 1)).flatMap (dayV p w (trip p mine))) := fun a b => by rw [hst, if_pos a, if_pos b]
   have s10 : (p.workers.getD w default).minor = true ∧ p.lim.minor < sumT (trip p mine) (dl.getD j default) → ¬ p.lim.week < week7 (trip p mine) (dl.getD j default) → insV ⟨6, w, loT (trip p mine) (dl.getD j default), hiT (trip p mine) (dl.getD j default)⟩ o2 = insAll o1 ((dl.take (j + 1)).flatMap (dayV p w (trip p mine))) := fun a b => by rw [hst, if_pos a, if_neg b]
   have neg : ((p.workers.getD w default).minor = false ∨ sumT (trip p mine) (dl.getD j default) ≤ p.lim.minor) → ¬ ((p.workers.getD w default).minor = true ∧ p.lim.minor < sumT (trip p mine) (dl.getD j default)) := fun a b => by
    rcases a with a | a
    ·rw [b.1] at a; cases a
    ·omega
   have s01 : ((p.workers.getD w default).minor = false ∨ sumT (trip p mine) (dl.getD j default) ≤ p.lim.minor) → p.lim.week < week7 (trip p mine) (dl.getD j default) → insV ⟨4, w, loT (trip p mine) (dl.getD j default), -1⟩ o2 = insAll o1 ((dl.take (j + 1)).flatMap (dayV p w (trip p mine))) := fun a b => by rw [hst, if_neg (neg a), if_pos b]
   have s00 : ((p.workers.getD w default).minor = false ∨ sumT (trip p mine) (dl.getD j default) ≤ p.lim.minor) → ¬ p.lim.week < week7 (trip p mine) (dl.getD j default) → o2 = insAll o1 ((dl.take (j + 1)).flatMap (dayV p w (trip p mine))) := fun a b => by rw [hst, if_neg (neg a), if_neg b]
   have i4 := v8insert_ok o2 ⟨4, w, loT (trip p mine) (dl.getD j default), -1⟩ (by omega)
   have i6a := v8insert_ok o2 ⟨6, w, loT (trip p mine) (dl.getD j default), hiT (trip p mine) (dl.getD j default)⟩ (by omega)
   have i6b := v8insert_ok (insV ⟨4, w, loT (trip p mine) (dl.getD j default), -1⟩ o2) ⟨6, w, loT (trip p mine) (dl.getD j default), hiT (trip p mine) (dl.getD j default)⟩ (by omega)
   by_cases heq : H1 = loT (trip p mine) (dl.getD j default)
   ·rw [if_pos heq] at hh
    rw [← hh] at i6a i6b s11 s10
    repeat' ((conv => whnf) <;> (first | refine zM ?_ | refine zW ?_ | intro _ | exact zF | refine Br.tt ?_ | refine Br.ff ?_ | (refine Br.mk (fun h => ?_) (fun h => ?_) <;> (try simp only [sh] at h) <;> try first | (exfalso; omega) | exact absurd trivial h | (simp at h; done)) | refine zA ?_ | refine zN ?_ | refine zO ?_ | refine zP ?_ | refine zB ?_ | refine zL ent114 d5 ?_ | refine zG ent114 (fun h => d5) ?_ | refine zL ent114 d6 ?_ | refine zG ent114 (fun h => d6) ?_ | refine zL ent112 i4 ?_ | refine zG ent112 (fun h => i4) ?_ | refine zL ent112 i6a ?_ | refine zG ent112 (fun h => i6a) ?_ | refine zL ent112 i6b ?_ | refine zG ent112 (fun h => i6b) ?_ | refine lB ?_ | refine lBA ?_ | refine zK ?_ | refine s1 ?_ | refine sA ?_ | refine zC ?_ | fail))
    all_goals first
     | (rw [s11 (by assumption) (by assumption)]; (conv => whnf); (refine Nxt.of (j + 1) [3, 12, 13, 14, 15, 16, 17, 18, 77, 78, 79, 80, 81, 82, 83, 84, 85, 86, 87, 88, 89, 90, 91, 92, 93, 94, 95, 96, 97, 98, 99, 100, 101, 102, 103, 104, 105, 106, 107, 108, 109, 110, 111, 112, 113, 114, 115, 116, 117, 118, 119, 120, 121, 122, 123, 124, 125, 126, 127, 128, 129, 130, 131, 132, 133, 134, 135, 136, 137, 138, 139, 140, 141, 142, 143, 144, 145] Qr Qr Qr ?_ ?_ Qy Qs <;> (try dsimp only) <;> (try omega)))
     | (rw [s10 (by assumption) (by omega)]; (conv => whnf); (refine Nxt.of (j + 1) [3, 12, 13, 14, 15, 16, 17, 18, 77, 78, 79, 80, 81, 82, 83, 84, 85, 86, 87, 88, 89, 90, 91, 92, 93, 94, 95, 96, 97, 98, 99, 100, 101, 102, 103, 104, 105, 106, 107, 108, 109, 110, 111, 112, 113, 114, 115, 116, 117, 118, 119, 120, 121, 122, 123, 124, 125, 126, 127, 128, 129, 130, 131, 132, 133, 134, 135, 136, 137, 138, 139, 140, 141, 142, 143, 144, 145] Qr Qr Qr ?_ ?_ Qy Qs <;> (try dsimp only) <;> (try omega)))
     | (rw [s01 (by assumption) (by assumption)]; (conv => whnf); (refine Nxt.of (j + 1) [3, 12, 13, 14, 15, 16, 17, 18, 77, 78, 79, 80, 81, 82, 83, 84, 85, 86, 87, 88, 89, 90, 91, 92, 93, 94, 95, 96, 97, 98, 99, 100, 101, 102, 103, 104, 105, 106, 107, 108, 109, 110, 111, 112, 113, 114, 115, 116, 117, 118, 119, 120, 121, 122, 123, 124, 125, 126, 127, 128, 129, 130, 131, 132, 133, 134, 135, 136, 137, 138, 139, 140, 141, 142, 143, 144, 145] Qr Qr Qr ?_ ?_ Qy Qs <;> (try dsimp only) <;> (try omega)))
     | (rw [s00 (by assumption) (by omega)]; (conv => whnf); (refine Nxt.of (j + 1) [3, 12, 13, 14, 15, 16, 17, 18, 77, 78, 79, 80, 81, 82, 83, 84, 85, 86, 87, 88, 89, 90, 91, 92, 93, 94, 95, 96, 97, 98, 99, 100, 101, 102, 103, 104, 105, 106, 107, 108, 109, 110, 111, 112, 113, 114, 115, 116, 117, 118, 119, 120, 121, 122, 123, 124, 125, 126, 127, 128, 129, 130, 131, 132, 133, 134, 135, 136, 137, 138, 139, 140, 141, 142, 143, 144, 145] Qr Qr Qr ?_ ?_ Qy Qs <;> (try dsimp only) <;> (try omega)))
   ·rw [if_neg heq] at hh
    rw [← hh] at i6a i6b s11 s10
    repeat' ((conv => whnf) <;> (first | refine zM ?_ | refine zW ?_ | intro _ | exact zF | refine Br.tt ?_ | refine Br.ff ?_ | (refine Br.mk (fun h => ?_) (fun h => ?_) <;> (try simp only [sh] at h) <;> try first | (exfalso; omega) | exact absurd trivial h | (simp at h; done)) | refine zA ?_ | refine zN ?_ | refine zO ?_ | refine zP ?_ | refine zB ?_ | refine zL ent114 d5 ?_ | refine zG ent114 (fun h => d5) ?_ | refine zL ent114 d6 ?_ | refine zG ent114 (fun h => d6) ?_ | refine zL ent112 i4 ?_ | refine zG ent112 (fun h => i4) ?_ | refine zL ent112 i6a ?_ | refine zG ent112 (fun h => i6a) ?_ | refine zL ent112 i6b ?_ | refine zG ent112 (fun h => i6b) ?_ | refine lB ?_ | refine lBA ?_ | refine zK ?_ | refine s1 ?_ | refine sA ?_ | refine zC ?_ | fail))
    all_goals first
     | (rw [s11 (by assumption) (by assumption)]; (conv => whnf); (refine Nxt.of (j + 1) [3, 12, 13, 14, 15, 16, 17, 18, 77, 78, 79, 80, 81, 82, 83, 84, 85, 86, 87, 88, 89, 90, 91, 92, 93, 94, 95, 96, 97, 98, 99, 100, 101, 102, 103, 104, 105, 106, 107, 108, 109, 110, 111, 112, 113, 114, 115, 116, 117, 118, 119, 120, 121, 122, 123, 124, 125, 126, 127, 128, 129, 130, 131, 132, 133, 134, 135, 136, 137, 138, 139, 140, 141, 142, 143, 144, 145] Qr Qr Qr ?_ ?_ Qy Qs <;> (try dsimp only) <;> (try omega)))
     | (rw [s10 (by assumption) (by omega)]; (conv => whnf); (refine Nxt.of (j + 1) [3, 12, 13, 14, 15, 16, 17, 18, 77, 78, 79, 80, 81, 82, 83, 84, 85, 86, 87, 88, 89, 90, 91, 92, 93, 94, 95, 96, 97, 98, 99, 100, 101, 102, 103, 104, 105, 106, 107, 108, 109, 110, 111, 112, 113, 114, 115, 116, 117, 118, 119, 120, 121, 122, 123, 124, 125, 126, 127, 128, 129, 130, 131, 132, 133, 134, 135, 136, 137, 138, 139, 140, 141, 142, 143, 144, 145] Qr Qr Qr ?_ ?_ Qy Qs <;> (try dsimp only) <;> (try omega)))
     | (rw [s01 (by assumption) (by assumption)]; (conv => whnf); (refine Nxt.of (j + 1) [3, 12, 13, 14, 15, 16, 17, 18, 77, 78, 79, 80, 81, 82, 83, 84, 85, 86, 87, 88, 89, 90, 91, 92, 93, 94, 95, 96, 97, 98, 99, 100, 101, 102, 103, 104, 105, 106, 107, 108, 109, 110, 111, 112, 113, 114, 115, 116, 117, 118, 119, 120, 121, 122, 123, 124, 125, 126, 127, 128, 129, 130, 131, 132, 133, 134, 135, 136, 137, 138, 139, 140, 141, 142, 143, 144, 145] Qr Qr Qr ?_ ?_ Qy Qs <;> (try dsimp only) <;> (try omega)))
     | (rw [s00 (by assumption) (by omega)]; (conv => whnf); (refine Nxt.of (j + 1) [3, 12, 13, 14, 15, 16, 17, 18, 77, 78, 79, 80, 81, 82, 83, 84, 85, 86, 87, 88, 89, 90, 91, 92, 93, 94, 95, 96, 97, 98, 99, 100, 101, 102, 103, 104, 105, 106, 107, 108, 109, 110, 111, 112, 113, 114, 115, 116, 117, 118, 119, 120, 121, 122, 123, 124, 125, 126, 127, 128, 129, 130, 131, 132, 133, 134, 135, 136, 137, 138, 139, 140, 141, 142, 143, 144, 145] Qr Qr Qr ?_ ?_ Qy Qs <;> (try dsimp only) <;> (try omega)))
  ·have e : dl.take j = dl := List.take_of_length_le (by omega)
   dsimp only
   rw [e]
   repeat' ((conv => whnf) <;> (first | refine zM ?_ | refine zW ?_ | intro _ | exact zF | refine Br.tt ?_ | refine Br.ff ?_ | (refine Br.mk (fun h => ?_) (fun h => ?_) <;> (try simp only [sh] at h) <;> try first | (exfalso; omega) | exact absurd trivial h | (simp at h; done)) | refine zA ?_ | refine zN ?_ | refine zO ?_ | refine zP ?_ | refine zB ?_ | refine lB ?_ | refine lBA ?_ | refine zK ?_ | refine s1 ?_ | refine sA ?_ | refine zC ?_ | fail))
theorem ofL_len {p : Pl} {w : Nat} {mine : List Nat} (hv : validP p = true) (hm : ∀ d ∈ mine, d < p.duties.length) (hl : mine.length ≤ 24) : (ofL p w mine).length ≤ 1000 := by
 have h1 := preL_len p w mine hl mine.length
 have h2 := flatL_len (f := dayV p w (trip p mine)) (m := 2) (l := (trip p mine).map (·.2.1)) fun x _ => dayV_len p w _ x
 have h3 := trip_len (p := p) (mine := mine) fun d hd => (mins_bdR hv (hm d hd)).1
 rw [List.length_map] at h2
 have e : (ofL p w mine).length = (preL p w mine mine.length).length + (((trip p mine).map (·.2.1)).flatMap (dayV p w (trip p mine))).length := by
  rw [← List.length_append]; rfl
 omega
theorem refAll_len {p : Pl} {ro : List Int} (hv : validP p = true) (hr : ro.length = p.duties.length) : ∀ k, (refAll p ro k).length ≤ 1000 * k
 | 0 => by simp [refAll]
 | k + 1 => by
  have h1 := refAll_len hv hr k
  have h24 := (validP_iff.1 hv).2.1
  have h2 := ofL_len (p := p) (w := k) (mine := mineR ro k) hv (fun d hd => by have := mineR_lt hd; omega) (by have := mineR_len ro k; omega)
  rw [refAll_succ, List.length_append]
  omega
theorem badP_le {p : Pl} {ro : List Int} (hv : validP p = true) (hr : ro.length = p.duties.length) : (badP p ro).length ≤ 12000 := by
 have h1 := refAll_len hv hr p.workers.length
 have h2 := insAll_len (refAll p ro p.workers.length) []
 have h12 := (validP_iff.1 hv).2.2.1
 rw [ref_bad, List.length_nil] at h2
 omega
set_option maxHeartbeats 4000000 in
theorem v8Bad_ok (p : Pl) (ro : List Int) (hs : Small p) (hr : ro.length ≤ 100000) : FnA Tryz.prog 62 [.agg (pcs p), .sl 1 (ro.map I)] (.tup [.sl 4 ((if okRo p ro then badP p ro else []).map viav), I (if okRo p ro then 0 else 1)]) := by
 have c1 := v8Valid_ok p hs
 have c2 := v8Roster_ok p ro hs (by omega)
 by_cases hk : okRo p ro = true
 ·have hk2 := hk
  unfold okRo at hk2
  rw [Bool.and_eq_true_iff] at hk2
  have hro := isRo_iff.1 hk2.2
  have h24 := (validP_iff.1 hk2.1).2.1
  have h12 := (validP_iff.1 hk2.1).2.2.1
  have hlw : (p.workers.map wkav).length = p.workers.length := by simp
  rw [hk2.1] at c1
  rw [hk2.2] at c2
  rw [if_pos hk, if_pos hk, ← ref_bad]
  refine fn_run (T := tab) Tryz.func62 rfl Tryz.ntmps62 rfl Tryz.results62 (fun _ => ?_)
  repeat' ((conv => whnf) <;> (first | refine zM ?_ | refine zW ?_ | intro _ | exact zF | refine Br.tt ?_ | refine Br.ff ?_ | (refine Br.mk (fun h => ?_) (fun h => ?_) <;> (try simp only [sh] at h) <;> try first | (exfalso; omega) | exact absurd trivial h | (simp at h; done)) | refine zA ?_ | refine zN ?_ | refine zO ?_ | refine zP ?_ | refine zB ?_ | refine zL ent24 c1 ?_ | refine zG ent24 (fun h => c1) ?_ | refine zL ent83 c2 ?_ | refine zG ent83 (fun h => c2) ?_ | refine lB ?_ | refine lBA ?_ | refine zK ?_ | refine s1 ?_ | refine sA ?_ | refine zC ?_ | fail))
  refine CK.see 6 rfl (Sb.nil (k := 4)) ?_
  (conv => whnf); refine CK.loop [6, 7, 17, 18, 19, 20, 21, 22, 23, 24, 25, 26, 27, 28, 29, 30] (σ := Nat) (fun w => w ≤ p.workers.length) (fun w => [(7, I w), (6, .sl 4 ((insAll [] (refAll p ro w)).map viav))]) (fun _ => _) (fun w => p.workers.length - w) 0 (Nat.zero_le _) Qy (List.Sublist.refl _) ?_
  conv => whnf
  rintro w i1
  by_cases hw : w < p.workers.length
  ·have hml := mineR_len ro w
   have hrl := refAll_len hk2.1 hro.1 w
   have hil := insAll_len (refAll p ro w) []
   rw [List.length_nil] at hil
   have c3 := v8Mine_ok ro w hr
   have c4 := v8of_ok p w (mineR ro w) (insAll [] (refAll p ro w)) hk2.1 (fun d hd => by have := mineR_lt hd; omega) (by omega) (mineR_nodup ro w) hw hs (by omega)
   rw [← insAll_app, ← refAll_succ] at c4
   repeat' ((conv => whnf) <;> (first | refine zM ?_ | refine zW ?_ | intro _ | exact zF | refine Br.tt ?_ | refine Br.ff ?_ | (refine Br.mk (fun h => ?_) (fun h => ?_) <;> (try simp only [sh] at h) <;> try first | (exfalso; omega) | exact absurd trivial h | (simp at h; done)) | refine zA ?_ | refine zN ?_ | refine zO ?_ | refine zP ?_ | refine zB ?_ | refine zL ent85 c3 ?_ | refine zG ent85 (fun h => c3) ?_ | refine zL ent84 c4 ?_ | refine zG ent84 (fun h => c4) ?_ | refine lB ?_ | refine lBA ?_ | refine zK ?_ | refine s1 ?_ | refine sA ?_ | refine zC ?_ | fail))
   (conv => whnf); (refine Nxt.of (w + 1) [6, 7, 17, 18, 19, 20, 21, 22, 23, 24, 25, 26, 27, 28, 29, 30] Qr Qr Qr ?_ ?_ Qy Qs <;> (try dsimp only) <;> (try omega))
  ·have : w = p.workers.length := by omega
   subst this
   repeat' ((conv => whnf) <;> (first | refine zM ?_ | refine zW ?_ | intro _ | exact zF | refine Br.tt ?_ | refine Br.ff ?_ | (refine Br.mk (fun h => ?_) (fun h => ?_) <;> (try simp only [sh] at h) <;> try first | (exfalso; omega) | exact absurd trivial h | (simp at h; done)) | refine zA ?_ | refine zN ?_ | refine zO ?_ | refine zP ?_ | refine zB ?_ | refine lB ?_ | refine lBA ?_ | refine zK ?_ | refine s1 ?_ | refine sA ?_ | refine zC ?_ | fail))
 ·have hk2 : ¬ (validP p = true ∧ isRo p ro = true) := by
   unfold okRo at hk
   rwa [Bool.and_eq_true_iff] at hk
  rw [if_neg hk, if_neg hk]
  refine fn_run (T := tab) Tryz.func62 rfl Tryz.ntmps62 rfl Tryz.results62 (fun _ => ?_)
  repeat' ((conv => whnf) <;> (first | refine zM ?_ | refine zW ?_ | intro _ | exact zF | refine Br.tt ?_ | refine Br.ff ?_ | (refine Br.mk (fun h => ?_) (fun h => ?_) <;> (try simp only [sh] at h) <;> try first | (exfalso; omega) | exact absurd trivial h | (simp at h; done)) | refine zA ?_ | refine zN ?_ | refine zO ?_ | refine zP ?_ | refine zB ?_ | refine zL ent24 c1 ?_ | refine zG ent24 (fun h => c1) ?_ | refine zL ent83 c2 ?_ | refine zG ent83 (fun h => c2) ?_ | refine lB ?_ | refine lBA ?_ | refine zK ?_ | refine s1 ?_ | refine sA ?_ | refine zC ?_ | fail))
  ·conv => whnf
   exact Fin.seeP Qz
  ·exact absurd h hk2
end Go.Proofs.YtjfnkmlnbaianaaGreat
