/-
  Walks: package roster: byDays.
  Conditions: those of each theorem.
-/
import Derived.Test.YtjfnkmlnbaianaaGreatRO1
import Derived.Test.YtjfnkmlnbaianaaGreatRV
import Derived.Test.YtjfnkmlnbaianaaGreatZV
import Derived.Test.YtjfnkmlnbaianaaGreatE5E
namespace Go.Proofs.YtjfnkmlnbaianaaGreat
open Go.E2 Go.Wage
def kinds : List AV := [.v (.iface 121 (.agg #[])), .v (.iface 122 (.agg #[])), .v (.iface 123 (.agg #[])), .v (.iface 124 (.agg #[])), .v (.iface 125 (.agg #[])), .v (.iface 126 (.agg #[]))]
def ccs (p : Pl) : List AV := [.v (.string p.zone.name), I p.zone.base, .sl 2 (p.zone.chs.map chav), .sl 3 (p.duties.map duav), .sl 5 (p.workers.map wkav), I p.lim.rest, I p.lim.week, I p.lim.night.1, I p.lim.night.2, I p.lim.minor,
 .sl 1 (p.duties.map fun d => .sl 2 ((minsD p d).map ptav)), .sl 1 (p.duties.map fun d => I (nightD p d)), .sl 1 (p.workers.map fun w => .sl 1 (p.duties.map fun d => B (awB w d))), .sl 1 kinds]
def tcs (p : Pl) (w : Nat) (mine : List Nat) : List AV := [.fp (ccs p) 0, I w, .sl 1 (mine.map In)]
def rowsN (t : TypeId) (RS : List (Int × Value × List Nat)) : List Ent := RS.map fun e => .row e.2.1 t 1 0 false (e.2.2.map In)
theorem CK.pick {P : Program} {T : Tr} [TabOK P T] {c : Ctx} {m : Nat} {ro : Option Nat} {x : Code} {K : KT} {ds : List Deferred} {F : Fr} {A : List Ent} {t : TypeId} {RS : List (Int × Value × List Nat)} (day : Int) (k : ∀ v l, (lk day RS).getD (.slice none 0 0, []) = (v, l) → CK P T c m ro x K ds F (A ++ (.row v t 1 0 false (l.map In) :: rowsN t (lkE day RS)))) : CK P T c m ro x K ds F (A ++ rowsN t RS) := by
 cases h : lk day RS with
 | none =>
  refine CK.nilrow t 1 ?_
  have := k _ _ (by rw [h, Option.getD_none])
  rw [lkE_none h] at this
  exact CK.perm List.perm_middle.symm this
 | some b =>
  have := k b.1 b.2 (by rw [h, Option.getD_some])
  exact CK.perm ((lkE_perm h).map _ |>.append_left A) this
structure Lnk (D : List (Int × Value)) (RS : List (Int × Value × List Nat)) (T : Tri) : Prop where
 nd : (D.map (·.1)).Nodup
 nr : (RS.map (·.1)).Nodup
 eq : ∀ x, lk x D = (lk x RS).map (·.1)
 dt : ∀ x, (lk x RS).map (·.2) = if dutT T x = [] then none else some (dutT T x)
theorem Lnk.getD {D : List (Int × Value)} {RS : List (Int × Value × List Nat)} {T : Tri} (h : Lnk D RS T) {x : Int} {v : Value} {l : List Nat} (e : (lk x RS).getD (.slice none 0 0, []) = (v, l)) : (lk x D).getD (.slice none 0 0) = v ∧ l = dutT T x := by
 rw [h.eq x]
 have hd := h.dt x
 cases hk : lk x RS with
 | none =>
  rw [hk, Option.getD_none] at e
  rw [hk, Option.map_none] at hd
  injection e with e1 e2
  subst e1
  subst e2
  refine ⟨rfl, ?_⟩
  split at hd
  ·rename_i h2; exact h2.symm
  ·cases hd
 | some b =>
  rw [hk, Option.getD_some] at e
  rw [hk, Option.map_some] at hd
  subst e
  refine ⟨rfl, ?_⟩
  split at hd
  ·cases hd
  ·injection hd
theorem Lnk.put {D : List (Int × Value)} {RS : List (Int × Value × List Nat)} {T : Tri} (h : Lnk D RS T) (x : Int) (v : Value) (d : Nat) (n : Int) : Lnk (ups x v D) ((x, v, dutT T x ++ [d]) :: lkE x RS) (T ++ [(d, x, n)]) := by
 obtain ⟨h1, h2⟩ := lkE_spec (x := x) h.nr
 have hd : ∀ y, dutT (T ++ [(d, x, n)]) y = dutT T y ++ if y = x then [d] else [] := fun y => by
  rw [dutT_app]
  congr 1
  unfold dutT
  by_cases e : y = x
  ·subst e; simp
  ·rw [if_neg e]
   simp only [List.map_eq_nil_iff, List.filter_eq_nil_iff, List.mem_singleton]
   rintro _ rfl
   simpa using fun e' => e e'.symm
 refine ⟨ups_nodup h.nd, ?_, fun y => ?_, fun y => ?_⟩
 ·rw [List.map_cons, List.nodup_cons]
  refine ⟨fun hm => ?_, h1⟩
  have := lk_key.1 hm
  rw [h2 x, if_pos rfl] at this
  cases this
 ·rw [lk_ups, lk, h2 y, h.eq y]
  by_cases e : y = x
  ·rw [if_pos e, if_pos e]; rfl
  ·rw [if_neg e, if_neg e, if_neg e]
 ·rw [lk, h2 y, hd y]
  by_cases e : y = x
  ·rw [if_pos e, if_pos e, if_neg (by simp)]
   subst e
   rfl
  ·rw [if_neg e, if_neg e, if_neg e, List.append_nil]
   exact h.dt y
theorem Lnk.nil : Lnk [] [] [] := ⟨by simp, by simp, fun _ => rfl, fun _ => rfl⟩
theorem mapSK : MapK Tryz.prog 257 3 55 eI IsI64 := ⟨Tryz.underlying257, key_int Tryz.underlying3, fun x => ⟨x, rfl⟩, fun x y h => by injection h⟩
set_option maxRecDepth 4000 in
set_option maxHeartbeats 4000000 in
theorem oDays_raw (p : Pl) (w : Nat) (mine : List Nat) (hm : ∀ d ∈ mine, d < p.duties.length) (hl : mine.length ≤ 1000) (hp : posT (trip p mine)) (hb : (trip p mine).length ≤ 100000) :
  FnE Tryz.prog 203 [.agg (tcs p w mine)] fun r E => ∃ g1 g2 M D RS, r = .tup [.v (.map (some g1)), .v (.map (some g2))] ∧ E = .mp g2 (encM eI AV.v D) :: .mp g1 (encM eI I M) :: rowsN 3 RS ∧ Cnt M (sumT (trip p mine)) ∧ Lnk D RS (trip p mine) := by
 have hlm : (mine.map In).length = mine.length := by simp
 refine fn_run (T := tab) Tryz.func203 rfl Tryz.ntmps203 rfl Tryz.results203 (fun _ => ?_)
 repeat' ((conv => whnf) <;> (first | (refine LK.eff Eff.mkmap ?_ <;> rintro _ _ ⟨_, rfl, rfl⟩) | refine zM ?_ | refine zW ?_ | intro _ | exact zF | refine Br.tt ?_ | refine Br.ff ?_ | (refine Br.mk (fun h => ?_) (fun h => ?_) <;> (try simp only [sh] at h) <;> try first | (exfalso; omega) | exact absurd trivial h | (simp at h; done)) | refine zA ?_ | refine zN ?_ | refine zO ?_ | refine zP ?_ | refine zB ?_ | refine lB ?_ | refine lBA ?_ | refine zK ?_ | refine s1 ?_ | refine sA ?_ | refine zC ?_ | fail))
 rename_i b1 g1 g2
 (conv => whnf); refine CK.loop [7, 9, 15, 16, 17, 18, 19, 20, 21, 22, 23, 24, 25, 26, 27, 28, 29, 30, 31, 32, 33, 34, 35, 36, 37, 38, 39, 40, 41, 42, 43, 44, 45, 46, 47, 48, 49, 50] (σ := Nat × List (Int × Int) × List (Int × Value) × List (Int × Value × List Nat)) (fun s => s.1 ≤ mine.length ∧ Cnt s.2.1 (sumT (trip p (mine.take s.1))) ∧ Lnk s.2.2.1 s.2.2.2 (trip p (mine.take s.1))) (fun ⟨k, _⟩ => [(15, I k)]) (fun ⟨_, M, D, RS⟩ => .mp g2 (encM eI AV.v D) :: .mp g1 (encM eI I M) :: .blk b1 135 false (tcs p w mine) :: rowsN 3 RS) (fun s => mine.length - s.1) (0, [], [], []) ⟨Nat.zero_le _, Cnt.nil fun _ => rfl, Lnk.nil⟩ Qy (List.Sublist.refl _) ?_
 conv => whnf
 rintro ⟨k, M, D, RS⟩ ⟨i1, i2, i3⟩
 simp only at i1 i2 i3
 by_cases hk : k < mine.length
 ·have hmk := hm _ (getD_mem (k := k) hk)
  have hts := trip_snoc (p := p) hk
  have hT : trip p (mine.take (k + 1)) <+: trip p mine := by
   conv => rhs; rw [← List.take_append_drop (k + 1) mine]
   unfold trip
   rw [List.flatMap_append]
   exact List.prefix_append _ _
  rw [hts] at hT
  have hlq : ((minsD p (p.duties.getD (mine.getD k default) default)).map ptav).length = (minsD p (p.duties.getD (mine.getD k default) default)).length := by simp
  repeat' ((conv => whnf) <;> (first | refine zM ?_ | refine zW ?_ | intro _ | exact zF | refine Br.tt ?_ | refine Br.ff ?_ | (refine Br.mk (fun h => ?_) (fun h => ?_) <;> (try simp only [sh] at h) <;> try first | (exfalso; omega) | exact absurd trivial h | (simp at h; done)) | refine zA ?_ | refine zN ?_ | refine zO ?_ | refine zP ?_ | refine zB ?_ | refine lB ?_ | refine lBA ?_ | refine zK ?_ | refine s1 ?_ | refine sA ?_ | refine zC ?_ | fail))
  (conv => whnf); refine CK.loop [9, 28, 29, 30, 31, 32, 33, 34, 35, 36, 37, 38, 39, 40, 41, 42, 43, 44, 45, 46, 47, 48, 49] (σ := Nat × List (Int × Int) × List (Int × Value) × List (Int × Value × List Nat)) (fun s => s.1 ≤ (minsD p (p.duties.getD (mine.getD k default) default)).length ∧ Cnt s.2.1 (sumT (trip p (mine.take k) ++ ((minsD p (p.duties.getD (mine.getD k default) default)).take s.1).map fun q => ((mine.getD k default), q.1, q.2))) ∧ Lnk s.2.2.1 s.2.2.2 (trip p (mine.take k) ++ ((minsD p (p.duties.getD (mine.getD k default) default)).take s.1).map fun q => ((mine.getD k default), q.1, q.2))) (fun ⟨j, _⟩ => [(28, I j)]) (fun ⟨_, M, D, RS⟩ => .mp g2 (encM eI AV.v D) :: .mp g1 (encM eI I M) :: .blk b1 135 false (tcs p w mine) :: rowsN 3 RS) (fun s => (minsD p (p.duties.getD (mine.getD k default) default)).length - s.1) (0, M, D, RS) ⟨Nat.zero_le _, by simpa using i2, by simpa using i3⟩ Qy (List.Sublist.refl _) ?_
  conv => whnf
  rintro ⟨j, M1, D1, RS1⟩ ⟨j1, j2, j3⟩
  simp only at j1 j2 j3
  by_cases hj : j < (minsD p (p.duties.getD (mine.getD k default) default)).length
  ·have htk : ((minsD p (p.duties.getD (mine.getD k default) default)).take (j + 1)).map (fun q => ((mine.getD k default), q.1, q.2)) = ((minsD p (p.duties.getD (mine.getD k default) default)).take j).map (fun q => ((mine.getD k default), q.1, q.2)) ++ [((mine.getD k default), ((minsD p (p.duties.getD (mine.getD k default) default)).getD j default).1, ((minsD p (p.duties.getD (mine.getD k default) default)).getD j default).2)] := by
    have e : (minsD p (p.duties.getD (mine.getD k default) default))[j] = ((minsD p (p.duties.getD (mine.getD k default) default)).getD j default) := (getD_at hj).symm
    rw [List.take_succ_eq_append_getElem hj, List.map_append, e]
    rfl
   have hT2 : (trip p (mine.take k) ++ ((minsD p (p.duties.getD (mine.getD k default) default)).take j).map fun q => ((mine.getD k default), q.1, q.2)) ++ [((mine.getD k default), ((minsD p (p.duties.getD (mine.getD k default) default)).getD j default).1, ((minsD p (p.duties.getD (mine.getD k default) default)).getD j default).2)] <+: trip p mine := by
    refine List.IsPrefix.trans ?_ hT
    rw [List.append_assoc, ← htk]
    exact (List.prefix_append_right_inj _).2 ((List.take_prefix _ _).map _)
   have hpp : posT (trip p (mine.take k) ++ ((minsD p (p.duties.getD (mine.getD k default) default)).take j).map fun q => ((mine.getD k default), q.1, q.2)) := fun t ht => hp t (hT2.subset (List.mem_append_left _ ht))
   have hq := hp _ (hT2.subset (List.mem_append_right _ (List.mem_singleton.2 rfl)))
   have hlen := hT2.length_le
   have hjb : j < 100000 := by
    simp only [List.length_append, List.length_map, List.length_take, List.length_singleton] at hlen
    omega
   rw [List.length_append] at hlen
   have hget := j2.get (fun d => (sumT_bd d hpp).1) ((minsD p (p.duties.getD (mine.getD k default) default)).getD j default).1
   have hbd := sumT_bd ((minsD p (p.duties.getD (mine.getD k default) default)).getD j default).1 hpp
   have hadd := Cnt.add j2 hpp (mine.getD k default) ((minsD p (p.duties.getD (mine.getD k default) default)).getD j default).1 ((minsD p (p.duties.getD (mine.getD k default) default)).getD j default).2 hq.1
   have hput := fun v => j3.put ((minsD p (p.duties.getD (mine.getD k default) default)).getD j default).1 v (mine.getD k default) ((minsD p (p.duties.getD (mine.getD k default) default)).getD j default).2
   rw [List.append_assoc, ← htk] at hadd
   simp only [List.append_assoc, ← htk] at hput
   simp only at hq
   repeat' ((conv => whnf) <;> (first | (refine LK.eff (Eff.mset (l := M1) (ev := I) mapIK 2 rfl rfl rfl (x := ((minsD p (p.duties.getD (mine.getD k default) default)).getD j default).1) (v := (lk ((minsD p (p.duties.getD (mine.getD k default) default)).getD j default).1 M1).getD 0 + ((minsD p (p.duties.getD (mine.getD k default) default)).getD j default).2) rfl rfl) ?_ <;> rintro _ _ ⟨rfl, rfl⟩) | refine LK.gr (Gr.mget (l := M1) (ev := I) (dflt := 0) mapIK rfl (fun _ => .v _) 2 rfl rfl rfl rfl).1 ?_ | refine zM ?_ | refine zW ?_ | intro _ | exact zF | refine Fin.pure ?_ | refine Br.tt ?_ | refine Br.ff ?_ | (refine Br.mk (fun h => ?_) (fun h => ?_) <;> (try simp only [sh] at h) <;> try first | (exfalso; omega) | exact absurd trivial h | (simp at h; done)) | refine zA ?_ | refine zN ?_ | refine zO ?_ | refine zP ?_ | refine zB ?_ | refine lB ?_ | refine lBA ?_ | refine zK ?_ | refine s1 ?_ | refine sA ?_ | refine zC ?_ | fail))
   rename_i b9
   conv => whnf
   refine CK.pick (A := [.blk b9 188 false [I ((minsD p (p.duties.getD (mine.getD k default) default)).getD j default).1, I ((minsD p (p.duties.getD (mine.getD k default) default)).getD j default).2], .mp g2 (encM eI AV.v D1), .mp g1 (encM eI I (ups ((minsD p (p.duties.getD (mine.getD k default) default)).getD j default).1 ((lk ((minsD p (p.duties.getD (mine.getD k default) default)).getD j default).1 M1).getD 0 + ((minsD p (p.duties.getD (mine.getD k default) default)).getD j default).2) M1)), .blk b1 135 false (tcs p w mine)]) (RS := RS1) ((minsD p (p.duties.getD (mine.getD k default) default)).getD j default).1 fun v l hv => ?_
   obtain ⟨hv1, rfl⟩ := j3.getD hv
   have hdl := dutT_len ((minsD p (p.duties.getD (mine.getD k default) default)).getD j default).1 (trip p (mine.take k) ++ ((minsD p (p.duties.getD (mine.getD k default) default)).take j).map fun q => ((mine.getD k default), q.1, q.2))
   repeat' ((conv => whnf) <;> (first | (refine Kx.eff rfl (Eff.mset (l := D1) (ev := AV.v) mapSK 1 rfl rfl rfl (x := ((minsD p (p.duties.getD (mine.getD k default) default)).getD j default).1) (v := .slice A B C) rfl rfl) (by rintro _ _ ⟨rfl, rfl⟩; exact Qs) ?_ <;> rintro _ _ ⟨rfl, rfl⟩) | (refine Kx.eff rfl (Eff.appS (T := tab) 4 rfl rfl (congrArg (fun v => some (AV.v v)) hv1) rfl rfl Qb Q1 Qo) (by rintro _ _ ⟨_, _, _, rfl, rfl⟩; exact Qs) ?_ <;> rintro _ _ ⟨A, B, C, rfl, rfl⟩) | refine Kx.grQ rfl Qs (Gr.mget (l := D1) (ev := AV.v) (dflt := .slice none 0 0) mapSK rfl (fun _ => .v _) 1 rfl rfl rfl rfl).1 ?_ | refine CK.anyK (id := 10) [0, 1, 2, 3, 4, 5, 7, 8] [6, 9, 10] _ (List.Sublist.cons_cons _ (List.Sublist.cons _ (List.Sublist.cons_cons _ (List.Sublist.cons_cons _ (List.Sublist.cons _ (List.Sublist.refl _)))))) Qk ?_ | refine zM ?_ | refine zW ?_ | intro _ | exact zF | refine Fin.pure ?_ | refine Br.tt ?_ | refine Br.ff ?_ | (refine Br.mk (fun h => ?_) (fun h => ?_) <;> (try simp only [sh] at h) <;> try first | (exfalso; omega) | exact absurd trivial h | (simp at h; done)) | refine zA ?_ | refine zN ?_ | refine zO ?_ | refine zP ?_ | refine zB ?_ | refine lB ?_ | refine lBA ?_ | refine zK ?_ | refine s1 ?_ | refine sA ?_ | refine LK.gr (Gr.bslV rfl rfl rfl rfl) ?_ | refine Ask.of (Gr.bslV rfl rfl rfl rfl) ?_ | refine Kx.nil ?_ | refine Kx.stp rfl rfl Qs ?_ | refine kA ?_ | (refine Kx.frzR 0 rfl ?_ <;> refine kF ?_) | refine kP ?_ | refine k1 ?_ | refine kB ?_ | refine kL ?_ | refine zC ?_ | refine zD ?_ | fail))
   (conv => whnf); (refine Nxt.of ((j + 1, ups ((minsD p (p.duties.getD (mine.getD k default) default)).getD j default).1 ((lk ((minsD p (p.duties.getD (mine.getD k default) default)).getD j default).1 M1).getD 0 + ((minsD p (p.duties.getD (mine.getD k default) default)).getD j default).2) M1, ups ((minsD p (p.duties.getD (mine.getD k default) default)).getD j default).1 (Value.slice A B C) D1, (((minsD p (p.duties.getD (mine.getD k default) default)).getD j default).1, Value.slice A B C, dutT (trip p (mine.take k) ++ ((minsD p (p.duties.getD (mine.getD k default) default)).take j).map fun q => ((mine.getD k default), q.1, q.2)) ((minsD p (p.duties.getD (mine.getD k default) default)).getD j default).1 ++ [(mine.getD k default)]) :: lkE ((minsD p (p.duties.getD (mine.getD k default) default)).getD j default).1 RS1)) [9, 28, 29, 30, 31, 32, 33, 34, 35, 36, 37, 38, 39, 40, 41, 42, 43, 44, 45, 46, 47, 48, 49] Qr Qr Qr ?_ ?_ Qy ?_ <;> (try dsimp only) <;> (try omega))
   ·exact ⟨hj, hadd, hput _⟩
   ·rw [rowsN, List.map_cons]
    simp only [List.map_append]
    exact Qs
  ·have e : (minsD p (p.duties.getD (mine.getD k default) default)).take j = minsD p (p.duties.getD (mine.getD k default) default) := List.take_of_length_le (by omega)
   rw [e, ← hts] at j2 j3
   repeat' ((conv => whnf) <;> (first | (refine Nxt.of ((k + 1, M1, D1, RS1)) [7, 9, 15, 16, 17, 18, 19, 20, 21, 22, 23, 24, 25, 26, 27, 28, 29, 30, 31, 32, 33, 34, 35, 36, 37, 38, 39, 40, 41, 42, 43, 44, 45, 46, 47, 48, 49, 50] Qr Qr Qr ?_ ?_ Qy Qs <;> (try dsimp only) <;> (try omega)) | refine zM ?_ | refine zW ?_ | intro _ | exact zF | refine Br.tt ?_ | refine Br.ff ?_ | (refine Br.mk (fun h => ?_) (fun h => ?_) <;> (try simp only [sh] at h) <;> try first | (exfalso; omega) | exact absurd trivial h | (simp at h; done)) | refine zA ?_ | refine zN ?_ | refine zO ?_ | refine zP ?_ | refine zB ?_ | refine lB ?_ | refine lBA ?_ | refine zK ?_ | refine s1 ?_ | refine sA ?_ | refine zC ?_ | fail))
   exact ⟨hk, j2, j3⟩
 ·rw [List.take_of_length_le (by omega)] at i2 i3
  repeat' ((conv => whnf) <;> (first | refine zM ?_ | refine zW ?_ | intro _ | exact zF | refine Br.tt ?_ | refine Br.ff ?_ | (refine Br.mk (fun h => ?_) (fun h => ?_) <;> (try simp only [sh] at h) <;> try first | (exfalso; omega) | exact absurd trivial h | (simp at h; done)) | refine zA ?_ | refine zN ?_ | refine zO ?_ | refine zP ?_ | refine zB ?_ | refine lB ?_ | refine lBA ?_ | refine zK ?_ | refine s1 ?_ | refine sA ?_ | refine zC ?_ | fail))
  conv => whnf
  exact .out _ (.cons_cons _ (.cons_cons _ (.cons _ (.refl _)))) ⟨g1, g2, M, D, RS, rfl, rfl, i2, i3⟩
end Go.Proofs.YtjfnkmlnbaianaaGreat
