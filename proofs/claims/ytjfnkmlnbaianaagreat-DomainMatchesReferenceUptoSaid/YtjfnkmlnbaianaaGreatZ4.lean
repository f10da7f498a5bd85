/-
  Walks: package zone: Split.
  Conditions: those of each theorem.
-/
import Derived.Test.YtjfnkmlnbaianaaGreatZ1
import Derived.Test.YtjfnkmlnbaianaaGreatZK
namespace Go.Proofs.YtjfnkmlnbaianaaGreat
open Go.E2 Go.Wage
def ptav (p : Int × Int) : AV := .agg [I p.1, I p.2]
theorem dyZ_take {X : List (Sp × Int)} {j : Nat} {s : Sp × Int} (h : X[j]? = some s) (d : Int) : dyZ (X.take (j + 1)) d = dyZ (X.take j) d + dayM d (s.1.1 + s.2) (s.1.2 + s.2) := by
 obtain ⟨hj1, hj2⟩ := List.getElem?_eq_some_iff.1 h
 rw [List.take_succ_eq_append_getElem hj1, hj2, dyZ_app, dyZ_cons]
 simp [dyZ]
set_option maxRecDepth 4000 in
set_option maxHeartbeats 4000000 in
theorem zSplit_ok (z : Zo) (a b : Int) (hlen : z.chs.length ≤ 64) (hXl : (strZ z.base z.chs a b).length ≤ 65) (hz : validZ z = true) (hX : ∀ s ∈ strZ z.base z.chs a b, a ≤ s.1.1 ∧ s.1.1 < s.1.2 ∧ s.1.2 ≤ b ∧ -840 ≤ s.2 ∧ s.2 ≤ 840) (hab : 0 ≤ a ∧ a ≤ b ∧ b ≤ 52596000 ∧ b - a ≤ 44640) :
  FnA Tryz.prog 79 [.agg (zcs z), I a, I b] (.tup [.sl 2 ((if splitOk z a b then splitZ z a b else []).map ptav), I (if splitOk z a b then 0 else 21)]) := by
 have c1 := zcheck_ok z a b (by omega)
 have c2 := zStr_ok z a b
 have hit := fun g => zStr1_iter z a b g (by omega)
 unfold splitOk splitZ
 generalize strZ z.base z.chs a b = X at *
 have hin : ∀ d Y, (∀ s ∈ Y, s ∈ X) → 0 < dyZ Y d → -1 ≤ d ∧ d < 40000 := fun d Y hY h => by
  have := dyZ_in (a := a) (b := b) (X := Y) (fun s hs => by have := hX s (hY s hs); omega) h
  omega
 refine fnM_run (T := tab) Tryz.func79 rfl Tryz.ntmps79 rfl Tryz.results79 (fun _ => ?_)
 repeat' ((conv => whnf) <;> (first | (refine LK.eff Eff.mkmap ?_ <;> rintro _ _ ⟨gm, rfl, rfl⟩) | refine zM ?_ | refine zW ?_ | intro _ | exact zF | refine Fin.pure ?_ | refine Br.tt ?_ | refine Br.ff ?_ | (refine Br.mk (fun h => ?_) (fun h => ?_) <;> (try simp only [sh] at h) <;> try first | (exfalso; omega) | exact absurd trivial h | (simp at h; done)) | refine zA ?_ | refine zN ?_ | refine zO ?_ | refine zP ?_ | refine zB ?_ | refine zL ent103 c1 ?_ | refine zG ent103 (fun h => c1) ?_ | (refine LK.call ent104 (c2) rfl rfl Ql (fun _ _ hcall => ?_) <;> obtain ⟨g, rfl, rfl⟩ := hcall) | refine lB ?_ | refine lBA ?_ | refine zK ?_ | refine s1 ?_ | refine sA ?_ | refine zC ?_ | fail))
 ·rw [hz] at h
  simp only [Bool.true_eq_false, false_or] at h
  omega
 rename_i c0 b3 hh b8
 conv => whnf
 refine CK.rangeN (T := tab) (p := [33, 34]) ent122 (fun x hx => by obtain ⟨s, _, rfl⟩ := List.mem_map.1 hx; rfl) rfl (Sb.refl _) (hit g) (σ := List (Int × Int)) (fun j M => Cnt M (dyZ (X.take j))) (fun M => [.blk b8 179 false [.v (.map (some gm))], .mp gm (encM eI I M)]) _ (fun _ _ => False) [] (Cnt.nil fun d => by simp [dyZ]) (List.Sublist.refl _) ?_ ?_ (fun _ _ _ h => h.elim)
 ·intro j x M hx ht c' lp T1 T2
  rw [List.getElem?_map] at hx
  obtain ⟨s, hs, rfl⟩ : ∃ s, X[j]? = some s ∧ [spav s.1, I s.2] = x := by
   cases h : X[j]? with
   | none => rw [h] at hx; cases hx
   | some s => rw [h] at hx; exact ⟨s, rfl, by simpa using hx⟩
  have hsX := hX s (List.mem_of_getElem? hs)
  have hjl : j < X.length := (List.getElem?_eq_some_iff.1 hs).1
  have htk := dyZ_take hs
  have hbd : ∀ d, 0 ≤ dyZ (X.take j) d ∧ dyZ (X.take j) d ≤ 44640 * 65 := fun d => by
   have h1 := dyZ_nn d (X.take j)
   have h2 := dyZ_bd d (X.take j) fun s hs => by have := hX s (List.mem_of_mem_take hs); omega
   rw [List.length_take] at h2
   omega
  repeat' ((conv => whnf) <;> (first | refine Bgn.at 4 (List.Sublist.refl _) ?_ | refine zM ?_ | refine zW ?_ | intro _ | exact zF | refine Fin.pure ?_ | refine Br.tt ?_ | refine Br.ff ?_ | (refine Br.mk (fun h => ?_) (fun h => ?_) <;> (try simp only [sh] at h) <;> try first | (exfalso; omega) | exact absurd trivial h | (simp at h; done)) | refine zA ?_ | refine zN ?_ | refine zO ?_ | refine zP ?_ | refine zB ?_ | refine lB ?_ | refine lBA ?_ | refine zK ?_ | refine s1 ?_ | refine sA ?_ | refine zC ?_ | fail))
  conv => whnf
  rename_i b11
  (conv => whnf); refine CK.loopK [11, 13, 14, 43, 44, 45, 46, 47, 48, 49, 50, 51, 52, 53, 54, 55, 56, 57, 58, 59, 60] (σ := Int × List (Int × Int)) (fun q => s.1.1 + s.2 ≤ q.1 ∧ q.1 ≤ s.1.2 + s.2 ∧ Cnt q.2 fun d => dyZ (X.take j) d + dayM d (s.1.1 + s.2) q.1) (fun ⟨l, _⟩ => [(11, I l)]) (fun ⟨_, M⟩ => [.blk b11 28 false [I s.1.1, I s.1.2], .blk b8 179 false [.v (.map (some gm))], .mp gm (encM eI I M)]) _ (fun q => (s.1.2 + s.2 - q.1).toNat) (s.1.1 + s.2, M) ⟨Int.le_refl _, by dsimp only; omega, ht.cong fun d => by rw [dayM_self, Int.add_zero]⟩ Qy (List.Sublist.refl _) ?_
  conv => whnf
  rintro ⟨l, M1⟩ ⟨i1, i2, i3⟩
  simp only at i1 i2 i3
  by_cases hle : l < s.1.2 + s.2
  ·have c3 := zfloor_ok l (by omega)
   have hget := i3.get (fun d => by have := hbd d; have := dayM_nn d (s.1.1 + s.2) l; omega) (l / 1440)
   have hb1 := hbd (l / 1440)
   have hb2 := dayM_nn (l / 1440) (s.1.1 + s.2) l
   have hb3 := dayM_bd (d := l / 1440) i1
   have hput := i3.put (x := l / 1440) (v := (lk (l / 1440) M1).getD 0 + (min ((l / 1440 + 1) * 1440) (s.1.2 + s.2) - l)) (g := fun d => dyZ (X.take j) d + dayM d (s.1.1 + s.2) (min ((l / 1440 + 1) * 1440) (s.1.2 + s.2))) (by omega) fun d => by
    rw [day_next i1 hle]
    split
    ·rename_i e; subst e; omega
    ·omega
   repeat' ((conv => whnf) <;> (first | (refine Nxt.of ((min ((l / 1440 + 1) * 1440) (s.1.2 + s.2), _)) [11, 13, 14, 43, 44, 45, 46, 47, 48, 49, 50, 51, 52, 53, 54, 55, 56, 57, 58, 59, 60] Qr Qr Qr ?_ ?_ Qy Qs <;> (try dsimp only) <;> (try omega)) | (refine LK.eff (Eff.mset (l := M1) (ev := I) mapIK 2 rfl rfl rfl (x := l / 1440) (v := (lk (l / 1440) M1).getD 0 + (min ((l / 1440 + 1) * 1440) (s.1.2 + s.2) - l)) rfl rfl) ?_ <;> rintro _ _ ⟨rfl, rfl⟩) | refine LK.gr (Gr.mget (l := M1) (ev := I) (dflt := 0) mapIK rfl (fun _ => .v _) 2 rfl rfl rfl rfl).1 ?_ | refine zM ?_ | refine zW ?_ | intro _ | exact zF | refine Fin.pure ?_ | refine Br.tt ?_ | refine Br.ff ?_ | (refine Br.mk (fun h => ?_) (fun h => ?_) <;> (try simp only [sh] at h) <;> try first | (exfalso; omega) | exact absurd trivial h | (simp at h; done)) | refine zA ?_ | refine zN ?_ | refine zO ?_ | refine zP ?_ | refine zB ?_ | refine zL ent105 c3 ?_ | refine zG ent105 (fun h => c3) ?_ | refine lB ?_ | refine lBA ?_ | refine zK ?_ | refine s1 ?_ | refine sA ?_ | refine Kx.nil ?_ | refine Kx.stp rfl rfl Qs ?_ | refine kA ?_ | (refine Kx.frzR 0 rfl ?_ <;> refine kF ?_) | refine kP ?_ | refine k1 ?_ | refine kB ?_ | refine kL ?_ | refine zC ?_ | fail))
   exact ⟨by omega, by omega, hput⟩
  ·have e : l = s.1.2 + s.2 := by omega
   subst e
   repeat' ((conv => whnf) <;> (first | refine Rnd.of M1 (i3.cong htk) Qs | refine zM ?_ | refine zW ?_ | intro _ | exact zF | refine Fin.pure ?_ | refine Br.tt ?_ | refine Br.ff ?_ | (refine Br.mk (fun h => ?_) (fun h => ?_) <;> (try simp only [sh] at h) <;> try first | (exfalso; omega) | exact absurd trivial h | (simp at h; done)) | refine zA ?_ | refine zN ?_ | refine zO ?_ | refine zP ?_ | refine zB ?_ | refine lB ?_ | refine lBA ?_ | refine zK ?_ | refine s1 ?_ | refine sA ?_ | refine zC ?_ | fail))
 ·intro M D ht
  rw [List.length_map, List.take_length] at ht
  have hML : M.length ≤ 40001 := ht.len (lo := -1) fun d h => by have := hin d X (fun _ h => h) h; omega
  dsimp only
  repeat' ((conv => whnf) <;> (first | refine zM ?_ | refine zW ?_ | intro _ | exact zF | refine Br.tt ?_ | refine Br.ff ?_ | (refine Br.mk (fun h => ?_) (fun h => ?_) <;> (try simp only [sh] at h) <;> try first | (exfalso; omega) | exact absurd trivial h | (simp at h; done)) | refine zA ?_ | refine zN ?_ | refine zO ?_ | refine zP ?_ | refine zB ?_ | refine zL ent107 (mKeys_ok gm) ?_ | refine zG ent107 (fun h => mKeys_ok gm) ?_ | (refine LK.callL ent106 (FnL.front 2 rfl (sorted_ok I M gm (by omega))) rfl rfl Ql (fun _ _ hcall => ?_) <;> obtain ⟨rfl, ks, rfl, hp, hle⟩ := hcall) | refine lB ?_ | refine lBA ?_ | refine zK ?_ | refine s1 ?_ | refine sA ?_ | refine zC ?_ | fail))
  have hmem : ∀ d, d ∈ ks ↔ 0 < dyZ X d := fun d => hp.mem_iff.trans (ht.keys d)
  have hnd : ks.Nodup := hp.nodup_iff.2 ht.1
  have hlt : ks.Pairwise (· < ·) := (hle.and hnd).imp fun h => by omega
  have hprt := prt_of (a := a) (b := b) (fun s hs => by have := hX s hs; omega) (by omega) hlt hmem
  have hks : (ks.map I).length = ks.length := by simp
  have hkl : ks.length ≤ 40001 := by rw [hp.length_eq, List.length_map]; exact hML
  have hbd : ∀ d, 0 ≤ dyZ X d ∧ dyZ X d ≤ 44640 * 65 := fun d => by
   have h1 := dyZ_nn d X
   have h2 := dyZ_bd d X fun s hs => by have := hX s hs; omega
   omega
  repeat' ((conv => whnf) <;> (first | refine zM ?_ | refine zW ?_ | intro _ | exact zF | refine Br.tt ?_ | refine Br.ff ?_ | (refine Br.mk (fun h => ?_) (fun h => ?_) <;> (try simp only [sh] at h) <;> try first | (exfalso; omega) | exact absurd trivial h | (simp at h; done)) | refine zA ?_ | refine zN ?_ | refine zO ?_ | refine zP ?_ | refine zB ?_ | refine lB ?_ | refine lBA ?_ | refine zK ?_ | refine s1 ?_ | refine sA ?_ | refine zC ?_ | fail))
  refine CK.nilrow 188 2 ?_
  (conv => whnf); refine CK.loopK [6, 7, 15, 17, 18, 65, 66, 67, 68, 69, 70, 71, 72, 73, 74, 75, 76, 77, 78, 79, 80, 81, 82, 83, 84, 85, 86, 87, 88] (σ := Nat × Value) (fun q => q.1 ≤ ks.length ∧ (ks.take q.1).all okDay = true) (fun ⟨k, v⟩ => [(65, I k), (15, .v v)]) (fun ⟨k, v⟩ => [.row v 188 2 0 false ((ks.take k).map fun d => ptav (d, dyZ X d))]) _ (fun q => ks.length - q.1) (0, .slice none 0 0) ⟨Nat.zero_le _, rfl⟩ Qy (List.Sublist.refl _) ?_
  conv => whnf
  rintro ⟨k, v⟩ ⟨i1, i2⟩
  simp only at i1 i2
  by_cases hk : k < ks.length
  ·have hd := (hmem (ks.getD k default)).1 (by simp [List.getD, hk])
   have hdin := hin (ks.getD k default) X (fun _ h => h) hd
   have hget := ht.get (fun d => (hbd d).1) (ks.getD k default)
   have hacc : ((ks.take k).map fun d => ptav (d, dyZ X d)).length = k := by simp; omega
   repeat' ((conv => whnf) <;> (first | (refine Nxt.of ((k + 1, _)) [6, 7, 15, 17, 18, 65, 66, 67, 68, 69, 70, 71, 72, 73, 74, 75, 76, 77, 78, 79, 80, 81, 82, 83, 84, 85, 86, 87, 88] Qr Qr Qr ?_ ?_ Qy ?_ <;> (try dsimp only) <;> (try omega)) | refine Unm.at 2 rfl ?_ | refine LK.gr (Gr.mget (l := M) (ev := I) (dflt := 0) mapIK rfl (fun _ => .v _) 1 rfl rfl rfl rfl).1 ?_ | refine zM ?_ | refine zW ?_ | intro _ | exact zF | refine Br.tt ?_ | refine Br.ff ?_ | (refine Br.mk (fun h => ?_) (fun h => ?_) <;> (try simp only [sh] at h) <;> try first | (exfalso; omega) | exact absurd trivial h | (simp at h; done)) | refine zA ?_ | refine zN ?_ | refine zO ?_ | refine zP ?_ | refine zB ?_ | refine Ask.of (Gr.eqlS rfl rfl rfl rfl (eqs47 _ _ _ _ _ _)) ?_ | refine Ask.of (Gr.neqS rfl rfl rfl rfl (eqs47 _ _ _ _ _ _)) ?_ | refine Ask.of (Gr.eqlS rfl rfl rfl rfl (eqs28 _ _ _ _)) ?_ | refine Ask.of (Gr.neqS rfl rfl rfl rfl (eqs28 _ _ _ _)) ?_ | refine Ask.of (Gr.eqlS rfl rfl rfl rfl (eqs188 _ _ _ _)) ?_ | refine Ask.of (Gr.neqS rfl rfl rfl rfl (eqs188 _ _ _ _)) ?_ | refine Ask.of (Gr.eqlS rfl rfl rfl rfl (eqs68 _ _ _ _ _ _ _ _)) ?_ | refine Ask.of (Gr.neqS rfl rfl rfl rfl (eqs68 _ _ _ _ _ _ _ _)) ?_ | refine lB ?_ | refine lBA ?_ | refine nR ?_ | refine iR ?_ | refine lR ?_ | refine lR0 ?_ | refine lRA ?_ | refine zK ?_ | refine s1 ?_ | refine sA ?_ | refine LK.bsl rfl rfl rfl rfl ?_ | (refine LK.frzR 0 rfl ?_ <;> refine pF ?_) | refine pA ?_ | refine sR ?_ | refine zC ?_ | fail))
   ·conv => whnf
    rw [if_neg, if_neg]
    ·exact Fin.seeP Qz
    all_goals
     rw [List.all_eq_true]
     intro hall
     have := hall (ks.getD k default, dyZ X (ks.getD k default)) (by rw [← hprt]; exact List.mem_map.2 ⟨_, (hmem _).2 hd, rfl⟩)
     unfold okDay at this
     simp only [decide_eq_true_eq] at this
     omega
   ·refine ⟨hk, ?_⟩
    rw [List.take_succ_eq_append_getElem hk, List.all_append, i2]
    have : ks[k] = ks.getD k default := by simp [List.getD, hk]
    rw [this]
    unfold okDay
    simp only [List.all_cons, List.all_nil, Bool.and_true, Bool.true_and, decide_eq_true_eq]
    omega
   ·have e : (ks.take (k + 1)).map (fun d => ptav (d, dyZ X d)) = (ks.take k).map (fun d => ptav (d, dyZ X d)) ++ [AV.agg [I (ks.getD k default), I ((lk (ks.getD k default) M).getD 0)]] := by
     rw [List.take_succ_eq_append_getElem hk, List.map_append, hget]
     have : ks[k] = ks.getD k default := by simp [List.getD, hk]
     rw [this]
     rfl
    rw [e]
    exact Qs
  ·repeat' ((conv => whnf) <;> (first | refine Unm.at 2 rfl ?_ | refine zM ?_ | refine zW ?_ | intro _ | exact zF | refine Br.tt ?_ | refine Br.ff ?_ | (refine Br.mk (fun h => ?_) (fun h => ?_) <;> (try simp only [sh] at h) <;> try first | (exfalso; omega) | exact absurd trivial h | (simp at h; done)) | refine zA ?_ | refine zN ?_ | refine zO ?_ | refine zP ?_ | refine zB ?_ | refine lB ?_ | refine lBA ?_ | refine nR ?_ | refine iR ?_ | refine lR ?_ | refine lR0 ?_ | refine lRA ?_ | refine zK ?_ | refine s1 ?_ | refine sA ?_ | refine LK.bsl rfl rfl rfl rfl ?_ | (refine LK.frzR 0 rfl ?_ <;> refine pF ?_) | refine pA ?_ | refine sR ?_ | refine zC ?_ | fail))
   conv => whnf
   have ek : ks.take k = ks := List.take_of_length_le (by omega)
   have hall : ((prt X a b).all fun p => okDay p.1) = true := by
    rw [← hprt, List.all_map]
    rw [ek] at i2
    exact i2
   rw [hall]
   dsimp only
   rw [ek, if_pos rfl, if_pos rfl]
   rw [← hprt, List.map_map]
   refine Fin.frzR 0 rfl ?_
   exact Fin.seeP Qz
end Go.Proofs.YtjfnkmlnbaianaaGreat
