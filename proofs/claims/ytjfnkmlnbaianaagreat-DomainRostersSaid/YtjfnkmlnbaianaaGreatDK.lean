/-
  Texts D7, D8, D9, DF, DH, DI, DJ, DK.
  Conditions: those of each theorem.
-/
import Derived.Test.YtjfnkmlnbaianaaGreatD6
import Derived.Test.YtjfnkmlnbaianaaGreatRO7
import Derived.Test.YtjfnkmlnbaianaaGreatDA
namespace Go.Proofs.YtjfnkmlnbaianaaGreat
open Go.E2 Go.Wage
theorem perm7 {x m a b c d e : Ent} : [x, m, a, b, c, d, e].Perm [a, b, c, d, x, e, m] := ((List.perm_append_singleton m [a, b, c, d, e]).symm.cons x).trans (List.perm_middle (a := x) (l₁ := [a, b, c, d]) (l₂ := [e, m])).symm
theorem dmNew_ok (cs : List (List Lt)) (hc : cs.length ≤ 1000) (hb : ∀ c ∈ cs, c.length ≤ 1000) :
  FnE Tryz.prog 31 [.sl 1 (clO cs)] fun r E => ∃ g gs gm O T f A q cp us D, r = pt g ∧ PS cs [] (fun _ => False) f us ∧ (∀ y, (lk y D).getD [] = plc cs y) ∧ E = SL g gs gm (clA cs) O T (opnS cs []) (satS cs []) f (.slice A q cp) us (.slice none 0 0) [] [] D [] := by
 refine (dmNew_raw cs hc hb).step ?_
 rintro _ _ ⟨g, gs, gm, O, T, f, A, q, cp, us, w, D, RS, rfl, hI, hL, rfl⟩
 refine ⟨_, ⟨g, gs, gm, O, T, f, A, q, cp, us, D.map fun e => (e.1, plc cs e.1), rfl, ⟨hI.mono fun _ _ _ h => h.elim⟩, fun x => ?_, rfl⟩, fun c H w0 hs => ?_⟩
 ·rw [lk_mapG (fun x _ => plc cs x), hL.eq x]
  have := hL.dt x
  cases hk : lk x RS with
  | none =>
   rw [hk, Option.map_none] at this
   simp only [Option.map_none, Option.getD_none]
   split at this
   ·rename_i h; exact h.symm
   ·cases this
  | some b => simp
 ·have hD : ∀ e ∈ D, (e.2, (plc cs e.1).map In) ∈ RS.map fun e => (e.2.1, e.2.2.map In) := fun e he => by
   have h1 := lk_memG hL.nd (x := e.1) (b := e.2) he
   have h2 := hL.eq e.1
   have h3 := hL.dt e.1
   rw [h1] at h2
   cases hk : lk e.1 RS with
   | none => rw [hk] at h2; cases h2
   | some b =>
    rw [hk, Option.map_some] at h2 h3
    injection h2 with h2
    split at h3
    ·cases h3
    ·injection h3 with h3
     exact List.mem_map.2 ⟨_, mem_lkG hk, by rw [h2, ← h3]⟩
  unfold NL at hs
  rw [opnI_end, List.take_length] at hs
  obtain ⟨H1, l1, s1⟩ := hs.freezeRow (i := 4) rfl
  have s2 := s1.seeB (i := 0) (off := 3) rfl rfl (Sb.row 4 rfl)
  have s3 := s2.sub (L' := [.blk g 87 false [.v (.slice none 0 0), .v (.map (some gs)), .v (.map (some gm)), clA cs, .v O, .v T, I f, .v (.slice A q cp)], Ui (.slice A q cp) us, Ro O (opnS cs []), Rs T (List.replicate cs.length false), .mp gs (encM eL B [])] ++ (.mp gm (encM eL AV.v D) :: rowsL 3 RS)) (List.Sublist.cons_cons _ (List.Sublist.cons_cons _ (List.Sublist.cons_cons _ (List.Sublist.cons_cons _ (List.Sublist.cons _ (List.Sublist.refl _))))))
  have s4 := s3.perm List.perm_middle
  obtain ⟨H2, l2, s5⟩ := St.frzM (t := 3) (size := 1) (ek := eL) (D := D) (f := fun x => (plc cs x).map In) hD (by
   rw [List.map_map]
   exact s4)
  have s6 := s5.nilrow 47 3
  have e1 : encM eL slN (D.map fun e => (e.1, plc cs e.1)) = encM eL (AV.sl 1) (D.map fun e => (e.1, (plc cs e.1).map In)) := by simp [encM]
  refine ⟨H2, l1.trans l2, s6.perm ?_⟩
  unfold SL
  rw [e1, satS_nil]
  exact perm7
theorem one_lits : ∀ ls : List Lt, ((ls.map ltav).flatMap AV.cells).all AV.one = true
 | [] => rfl
 | l :: ls => by rw [List.map_cons, List.flatMap_cons, List.all_append, one_lits ls]; rfl
theorem cloneL_ok (ls : List Lt) (hlen : ls.length ≤ 100000) : FnE Tryz.prog 34 [.sl 3 (ls.map ltav)] fun r E => ∃ v, r = .v v ∧ E = [.row v 47 3 0 false (ls.map ltav)] := by
 have hl : (ls.map ltav).length = ls.length := by simp
 have h1 := one_lits ls
 refine fn_run (T := tab) Tryz.func34 rfl Tryz.ntmps34 rfl Tryz.results34 (fun _ => ?_)
 repeat' ((conv => whnf) <;> (first | refine LK.app 0 rfl rfl rfl rfl rfl Qb h1 Qo ?_ | refine LK.nilB rfl rfl (fun b hb => ?_) | refine zM ?_ | refine zW ?_ | intro _ | exact zF | refine Br.tt ?_ | refine Br.ff ?_ | (refine Br.mk (fun h => ?_) (fun h => ?_) <;> (try simp only [sh] at h) <;> try first | (exfalso; omega) | exact absurd trivial h | (simp at h; done)) | refine zA ?_ | refine zN ?_ | refine zO ?_ | refine zP ?_ | refine zB ?_ | refine lB ?_ | refine lBA ?_ | refine nR ?_ | refine iR ?_ | refine lR ?_ | refine lR0 ?_ | refine lRA ?_ | refine zK ?_ | refine s1 ?_ | refine sA ?_ | refine LK.bsl rfl rfl rfl rfl ?_ | (refine LK.frzR 0 rfl ?_ <;> refine pF ?_) | refine pA ?_ | refine sR ?_ | refine zC ?_ | fail))
 all_goals (conv => whnf)
 ·have : ls = [] := by
   cases ls with
   | nil => rfl
   | cons f fs => rw [hb (by simp)] at h; cases h
  subst this
  exact .nilrow _ _ (.out _ (List.Sublist.refl _) ⟨_, rfl, rfl⟩)
 ·exact .out _ (List.Sublist.refl _) ⟨_, rfl, rfl⟩
theorem cloneA_ok (ls : List Lt) (hlen : ls.length ≤ 100000) : FnA Tryz.prog 34 [.sl 3 (ls.map ltav)] (.sl 3 (ls.map ltav)) := by
 refine FnE.turn (cloneL_ok ls hlen) ?_
 rintro _ _ ⟨v, rfl, rfl⟩
 refine ⟨_, [], ⟨rfl, rfl⟩, fun c H w h0 => ?_⟩
 obtain ⟨H1, l1, s1⟩ := h0.freezeRow (i := 0) rfl
 exact ⟨H1, l1, s1.sub (List.nil_sublist _), fun v hr => Sb.rel s1 (.row 0 rfl) hr⟩
theorem uns_pos {cs : List (List Lt)} {out : List Lt} {u : Nat} (h : cs.findIdx? (uniC out) = some u) : unsN cs (out ++ [litC out (cs.getD u default)]) < unsN cs out := by
 have h3 := find_get h
 exact uns_lt (by rw [getD_at' h3.1]; exact List.getElem_mem _) h3.2.1
set_option maxRecDepth 4000 in
set_option maxHeartbeats 8000000 in
theorem dmUnit_ok (cs : List (List Lt)) (given : List Lt) (hc : cs.length ≤ 1000) (hb : ∀ c ∈ cs, c.length ≤ 1000) (hg : given.length ≤ 1000) :
  FnA Tryz.prog 13 [.sl 1 (clO cs), .sl 3 (given.map ltav)] (.tup [.sl 3 ((unitU cs given).1.map ltav), I (unitU cs given).2]) := by
 have c0 := dmNew_ok cs hc hb
 have hgl : (given.map ltav).length = given.length := by simp
 refine fn_run (T := tab) Tryz.func13 rfl Tryz.ntmps13 rfl Tryz.results13 (fun _ => ?_)
 repeat' ((conv => whnf) <;> (first | refine zM ?_ | refine zW ?_ | intro _ | exact zF | refine Br.tt ?_ | refine Br.ff ?_ | (refine Br.mk (fun h => ?_) (fun h => ?_) <;> (try simp only [sh] at h) <;> try first | (exfalso; omega) | exact absurd trivial h | (simp at h; done)) | refine zA ?_ | refine zN ?_ | refine zO ?_ | refine zP ?_ | refine zB ?_ | (refine LK.call ent31 (c0) rfl rfl Ql (fun _ _ hcall => ?_) <;> obtain ⟨g, gs, gm, O, T, f, A, q, cp, us, D, rfl, hP, hD, rfl⟩ := hcall) | refine lB ?_ | refine lBA ?_ | refine zK ?_ | refine s1 ?_ | refine sA ?_ | refine zC ?_ | fail))
 (conv => whnf); refine CK.loopK [8, 15, 16, 17, 18, 19, 20, 21, 22] (σ := Nat × Int × Option Addr × Nat × Nat × List Int × Option Addr × Nat × Nat × List (Lt × Bool)) (fun s => s.1 ≤ given.length ∧ PS cs (given.take s.1) (fun _ => False) s.2.1 s.2.2.2.2.2.1 ∧ Held (given.take s.1) s.2.2.2.2.2.2.2.2.2) (fun ⟨k, _⟩ => [(15, I k)]) (fun ⟨k, f, A, q, cp, us, Al, ql, cl, M⟩ => SL g gs gm (clA cs) O T (opnS cs (given.take k)) (satS cs (given.take k)) f (.slice A q cp) us (.slice Al ql cl) (given.take k) M D []) [] (fun s => given.length - s.1) (0, f, A, q, cp, us, none, 0, 0, []) ⟨Nat.zero_le _, hP, Held.nil⟩ Qy (by rw [List.append_nil]; exact List.Sublist.refl _) ?_
 conv => whnf
 rintro ⟨k, f, A, q, cp, us, Al, ql, cl, M⟩ ⟨i1, i2, i3⟩
 simp only at i1 i2 i3
 rw [List.append_nil]
 by_cases hk : k < given.length
 ·have c1 := fun c R => dmAdd_ok (c := c) (R := R) g gs gm (clA cs) O T cs (given.take k) (given.getD k default) f A q cp us Al ql cl M D i3 hD (i2.mono fun _ _ h => h.elim) hc hb (by rw [List.length_take]; omega)
  rw [← take_snocL hk] at c1
  repeat' ((conv => whnf) <;> (first | (refine LK.sub (List.sublist_cons_self _ _) ?_ <;> refine LK.callL ent32 (c1 _ _) rfl rfl Ql (fun _ _ hcall => ?_) <;> obtain ⟨rfl, f', A', q', cp', us', Al', ql', cl', M', hM', hP', rfl⟩ := hcall) | refine zM ?_ | refine zW ?_ | intro _ | exact zF | refine Br.tt ?_ | refine Br.ff ?_ | (refine Br.mk (fun h => ?_) (fun h => ?_) <;> (try simp only [sh] at h) <;> try first | (exfalso; omega) | exact absurd trivial h | (simp at h; done)) | refine zA ?_ | refine zN ?_ | refine zO ?_ | refine zP ?_ | refine zB ?_ | refine lB ?_ | refine lBA ?_ | refine zK ?_ | refine s1 ?_ | refine sA ?_ | refine zC ?_ | fail))
  (conv => whnf); (refine Nxt.of ((k + 1, f', A', q', cp', us', Al', ql', cl', M')) [8, 15, 16, 17, 18, 19, 20, 21, 22] Qr Qr Qr ?_ ?_ Qy Qs <;> (try dsimp only) <;> (try omega))
  exact ⟨hk, hP', hM'⟩
 ·obtain rfl : k = given.length := by omega
  rw [List.take_length] at i2 i3
  dsimp only
  rw [List.take_length]
  repeat' ((conv => whnf) <;> (first | refine zM ?_ | refine zW ?_ | intro _ | exact zF | refine Br.tt ?_ | refine Br.ff ?_ | (refine Br.mk (fun h => ?_) (fun h => ?_) <;> (try simp only [sh] at h) <;> try first | (exfalso; omega) | exact absurd trivial h | (simp at h; done)) | refine zA ?_ | refine zN ?_ | refine zO ?_ | refine zP ?_ | refine zB ?_ | refine lB ?_ | refine lBA ?_ | refine zK ?_ | refine s1 ?_ | refine sA ?_ | refine zC ?_ | fail))
  (conv => whnf); refine CK.loopG [9, 10, 23, 24, 25, 26, 27, 28, 29, 30, 31, 32, 33, 34, 35, 36, 37] (σ := List Lt × Int × Option Addr × Nat × Nat × List Int × Option Addr × Nat × Nat × List (Lt × Bool)) (fun s => PS cs s.1 (fun _ => False) s.2.1 s.2.2.2.2.2.1 ∧ Held s.1 s.2.2.2.2.2.2.2.2.2 ∧ refU cs (unsN cs s.1 + 1) s.1 = unitU cs given ∧ s.1.length + unsN cs s.1 ≤ 2000) (fun _ => []) (fun ⟨out, f, A, q, cp, us, Al, ql, cl, M⟩ => SL g gs gm (clA cs) O T (opnS cs out) (satS cs out) f (.slice A q cp) us (.slice Al ql cl) out M D []) [] (fun s => unsN cs s.1) (given, f, A, q, cp, us, Al, ql, cl, M) ⟨i2, i3, unitU_eq (by omega), by have := uns_le cs given; simp only; omega⟩ Qy (by rw [List.append_nil]; exact List.Sublist.refl _) ?_
  conv => whnf
  rintro ⟨out, f, A, q, cp, us, Al, ql, cl, M⟩ ⟨i1, i2, i3, i4⟩
  simp only at i1 i2 i3 i4
  rw [List.append_nil]
  have hfl := i1.fal
  have c4 := cloneA_ok out (by omega)
  by_cases hf : f < 0
  ·have c2 := fun c R => dmNext_ok (c := c) (R := R) g gs gm O T cs out f A q cp us (.slice Al ql cl) M D i2 i1 hf hc hb
   rw [if_neg (by omega)] at hfl
   repeat' ((conv => whnf) <;> (first | (refine LK.sub (List.sublist_cons_self _ _) ?_ <;> refine LK.callL ent32 (dmAdd_ok g gs gm (clA cs) O T cs out (litC out (cs.getD u default)) f A q' cp us' Al ql cl M D i2 hD hP' hc hb (by omega)) rfl rfl Ql (fun _ _ hcall => ?_) <;> obtain ⟨rfl, f2, A3, q3, cp3, us3, Al3, ql3, cl3, M3, hM3, hP3, rfl⟩ := hcall) | (refine Gst.frzR 5 rfl ?_ <;> refine Gst.seeB 1 0 rfl rfl (Sb.row 5 rfl) ?_ <;> refine Gst.done ?_) | (refine Gst.frzR 4 rfl ?_ <;> refine Gst.seeB 0 0 rfl rfl (Sb.row 4 rfl) ?_ <;> refine Gst.done ?_) | (refine LK.callL ent33 (c2 _ _) rfl rfl Ql (fun _ _ hcall => ?_) <;> rcases hcall with ⟨u, q', us', hu, rfl, hP', rfl⟩ | ⟨hu, q', us', rfl, hP', rfl⟩) | refine zM ?_ | refine zW ?_ | intro _ | exact zF | refine Br.tt ?_ | refine Br.ff ?_ | (refine Br.mk (fun h => ?_) (fun h => ?_) <;> (try simp only [sh] at h) <;> try first | (exfalso; omega) | exact absurd trivial h | (simp at h; done)) | refine zA ?_ | refine zN ?_ | refine zO ?_ | refine zP ?_ | refine zB ?_ | refine zL ent34 c4 ?_ | refine zG ent34 (fun h => c4) ?_ | refine lB ?_ | refine lBA ?_ | refine zK ?_ | refine s1 ?_ | refine sA ?_ | refine zC ?_ | fail))
   ·have hup := uns_pos hu
    (conv => whnf); (refine Nxt.of ((out ++ [litC out (cs.getD u default)], f2, A3, q3, cp3, us3, Al3, ql3, cl3, M3)) [9, 10, 23, 24, 25, 26, 27, 28, 29, 30, 31, 32, 33, 34, 35, 36, 37] Qr Qr Qr ?_ ?_ Qy Qs <;> (try dsimp only) <;> (try omega))
    ·refine ⟨hP3, hM3, ?_, by simp only [List.length_append, List.length_singleton]; omega⟩
     rw [← i3]
     conv => rhs; rw [refU, hfl]
     dsimp only
     rw [hu]
     exact refU_more _ _ _ (by omega) hup
   ·conv => whnf
    rw [refU, hfl] at i3
    dsimp only at i3
    rw [hu] at i3
    refine .out _ (by exact List.nil_sublist _) ?_
    have e : f = -1 := by
     rcases i1.i.fal with h | h
     ·exact h.1
     ·have := h.1
      omega
    rw [← i3, e]
    exact ⟨rfl, rfl⟩
  ·rw [if_pos (by omega)] at hfl
   repeat' ((conv => whnf) <;> (first | (refine Gst.frzR 4 rfl ?_ <;> refine Gst.seeB 0 0 rfl rfl (Sb.row 4 rfl) ?_ <;> refine Gst.done ?_) | refine zM ?_ | refine zW ?_ | intro _ | exact zF | refine Br.tt ?_ | refine Br.ff ?_ | (refine Br.mk (fun h => ?_) (fun h => ?_) <;> (try simp only [sh] at h) <;> try first | (exfalso; omega) | exact absurd trivial h | (simp at h; done)) | refine zA ?_ | refine zN ?_ | refine zO ?_ | refine zP ?_ | refine zB ?_ | refine zL ent34 c4 ?_ | refine zG ent34 (fun h => c4) ?_ | refine lB ?_ | refine lBA ?_ | refine zK ?_ | refine s1 ?_ | refine sA ?_ | refine zC ?_ | fail))
   conv => whnf
   rw [refU, hfl] at i3
   dsimp only at i3
   refine .out _ (by exact List.nil_sublist _) ?_
   rw [← i3, Int.toNat_of_nonneg (by omega)]
   exact ⟨rfl, rfl⟩
end Go.Proofs.YtjfnkmlnbaianaaGreat
namespace Go.Proofs.YtjfnkmlnbaianaaGreat
open Go.E2 Go.Wage
theorem g9not_ok (l : Lt) : FnA Tryz.prog 43 [ltav l] (ltav (negL l)) := by
 refine fn_run (T := tab) Tryz.func43 rfl Tryz.ntmps43 rfl Tryz.results43 (fun _ => ?_)
 repeat' ((conv => whnf) <;> (first | refine zM ?_ | refine zW ?_ | intro _ | exact zF | refine Fin.pure ?_ | refine Br.tt ?_ | refine Br.ff ?_ | (refine Br.mk (fun h => ?_) (fun h => ?_) <;> (try simp only [sh] at h) <;> try first | (exfalso; omega) | exact absurd trivial h | (simp at h; done)) | refine zA ?_ | refine zN ?_ | refine zO ?_ | refine zP ?_ | refine zB ?_ | refine lB ?_ | refine lBA ?_ | refine rA ?_ | refine r1 ?_ | refine zK ?_ | refine s1 ?_ | refine sA ?_ | refine zC ?_ | fail))
theorem has_step {ls : List Lt} {x : Lt} {k : Nat} (hk : k < ls.length) (h : ls.getD k default ≠ x) (h2 : x ∉ ls.take k) : x ∉ ls.take (k + 1) := by
 rw [take_snocL hk, List.mem_append, List.mem_singleton]
 rintro (hm | hm)
 ·exact h2 hm
 ·exact h hm.symm
theorem g9Has_ok (ls : List Lt) (x : Lt) (hl : ls.length ≤ 1000000) : FnA Tryz.prog 42 [.sl 3 (ls.map ltav), ltav x] (B (ls.contains x)) := by
 have hll : (ls.map ltav).length = ls.length := by simp
 refine fn_run (T := tab) Tryz.func42 rfl Tryz.ntmps42 rfl Tryz.results42 (fun _ => ?_)
 repeat' ((conv => whnf) <;> (first | refine zM ?_ | refine zW ?_ | intro _ | exact zF | refine Br.tt ?_ | refine Br.ff ?_ | (refine Br.mk (fun h => ?_) (fun h => ?_) <;> (try simp only [sh] at h) <;> try first | (exfalso; omega) | exact absurd trivial h | (simp at h; done)) | refine zA ?_ | refine zN ?_ | refine zO ?_ | refine zP ?_ | refine zB ?_ | refine lB ?_ | refine lBA ?_ | refine rA ?_ | refine r1 ?_ | refine zK ?_ | refine s1 ?_ | refine sA ?_ | refine zC ?_ | fail))
 (conv => whnf); refine CK.loopK [4, 5, 6, 7, 8, 9, 10, 11, 12, 13, 14, 15, 16, 17] (σ := Nat) (fun k => k ≤ ls.length ∧ x ∉ ls.take k) (fun k => [(5, I k)]) (fun _ => []) _ (fun k => ls.length - k) 0 ⟨Nat.zero_le _, by simp⟩ Qy (List.Sublist.refl _) ?_
 conv => whnf
 rintro k ⟨k1, k2⟩
 by_cases hk : k < ls.length
 ·repeat' ((conv => whnf) <;> (first | refine CK.anyK (id := 4) [0, 1, 2, 3, 4, 5] [] _ (List.Sublist.refl _) Qk ?_ | refine zM ?_ | refine zW ?_ | intro _ | exact zF | refine Br.tt ?_ | refine Br.ff ?_ | (refine Br.mk (fun h => ?_) (fun h => ?_) <;> (try simp only [sh] at h) <;> try first | (exfalso; omega) | exact absurd trivial h | (simp at h; done)) | refine zA ?_ | refine zN ?_ | refine zO ?_ | refine zP ?_ | refine zB ?_ | refine Ask.of (Gr.eqlS rfl rfl rfl rfl (eqs47 _ _ _ _ _ _)) ?_ | refine Ask.of (Gr.neqS rfl rfl rfl rfl (eqs47 _ _ _ _ _ _)) ?_ | refine Ask.of (Gr.eqlS rfl rfl rfl rfl (eqs28 _ _ _ _)) ?_ | refine Ask.of (Gr.neqS rfl rfl rfl rfl (eqs28 _ _ _ _)) ?_ | refine Ask.of (Gr.eqlS rfl rfl rfl rfl (eqs188 _ _ _ _)) ?_ | refine Ask.of (Gr.neqS rfl rfl rfl rfl (eqs188 _ _ _ _)) ?_ | refine Ask.of (Gr.eqlS rfl rfl rfl rfl (eqs68 _ _ _ _ _ _ _ _)) ?_ | refine Ask.of (Gr.neqS rfl rfl rfl rfl (eqs68 _ _ _ _ _ _ _ _)) ?_ | refine lB ?_ | refine lBA ?_ | refine rA ?_ | refine r1 ?_ | refine zK ?_ | refine s1 ?_ | refine sA ?_ | refine Kx.nil ?_ | refine Kx.stp rfl rfl Qs ?_ | refine kA ?_ | (refine Kx.frzR 0 rfl ?_ <;> refine kF ?_) | refine kP ?_ | refine k1 ?_ | refine kB ?_ | refine kL ?_ | refine zC ?_ | fail))
  ·conv => whnf
   refine .out _ (by exact List.nil_sublist _) ⟨congrArg B ?_, rfl⟩
   rename_i h3
   have e := Lt_eq h.1 h.2.1 h.2.2
   refine (List.contains_iff_mem.2 ?_).symm
   rw [← e, getD_at' hk]
   exact List.getElem_mem _
  ·(conv => whnf); (refine Nxt.of (k + 1) [4, 5, 6, 7, 8, 9, 10, 11, 12, 13, 14, 15, 16, 17] Qr Qr Qr ?_ ?_ Qy Qs <;> (try dsimp only) <;> (try omega))
   refine ⟨hk, has_step hk (fun e => ?_) k2⟩
   rw [e] at h
   simp at h
 ·rw [List.take_of_length_le (by omega)] at k2
  repeat' ((conv => whnf) <;> (first | refine zM ?_ | refine zW ?_ | intro _ | exact zF | refine Br.tt ?_ | refine Br.ff ?_ | (refine Br.mk (fun h => ?_) (fun h => ?_) <;> (try simp only [sh] at h) <;> try first | (exfalso; omega) | exact absurd trivial h | (simp at h; done)) | refine zA ?_ | refine zN ?_ | refine zO ?_ | refine zP ?_ | refine zB ?_ | refine lB ?_ | refine lBA ?_ | refine rA ?_ | refine r1 ?_ | refine zK ?_ | refine s1 ?_ | refine sA ?_ | refine zC ?_ | fail))
  conv => whnf
  refine .out _ (by exact List.nil_sublist _) ⟨congrArg B ?_, rfl⟩
  rw [List.contains_eq_mem, decide_eq_false k2]
theorem g9Has_row {c : Ctx} {R : List Ent} (v : Value) (ls : List Lt) (x : Lt) (hl : ls.length ≤ 1000000) : FnL Tryz.prog c 42 [.v v, ltav x] (Li v ls :: R) fun r L' => r = B (ls.contains x) ∧ L' = Li v ls :: R := by
 have hll : (ls.map ltav).length = ls.length := by simp
 refine fnL_run (T := tab) Tryz.func42 rfl Tryz.ntmps42 rfl Tryz.results42 (fun _ hw0 => ?_)
 repeat' ((conv => whnf) <;> (first | refine zM ?_ | refine zW ?_ | intro _ | exact zF | refine Br.tt ?_ | refine Br.ff ?_ | (refine Br.mk (fun h => ?_) (fun h => ?_) <;> (try simp only [sh] at h) <;> try first | (exfalso; omega) | exact absurd trivial h | (simp at h; done)) | refine zA ?_ | refine zN ?_ | refine zO ?_ | refine zP ?_ | refine zB ?_ | refine lB ?_ | refine lBA ?_ | refine rA ?_ | refine r1 ?_ | refine zK ?_ | refine s1 ?_ | refine sA ?_ | refine zC ?_ | fail))
 rename_i b
 (conv => whnf); refine CK.loopK [4, 5, 6, 7, 8, 9, 10, 11, 12, 13, 14, 15, 16, 17] (σ := Nat) (fun k => k ≤ ls.length ∧ x ∉ ls.take k) (fun k => [(5, I k)]) (fun _ => [.blk b 47 false [I x.du, I x.wk, B x.is], Li v ls]) R (fun k => ls.length - k) 0 ⟨Nat.zero_le _, by simp⟩ Qy (List.Sublist.refl _) ?_
 conv => whnf
 rintro k ⟨k1, k2⟩
 by_cases hk : k < ls.length
 ·repeat' ((conv => whnf) <;> (first | refine CK.anyK (id := 4) [0, 1, 2, 3, 4, 5] [] _ (List.Sublist.refl _) Qk ?_ | refine zM ?_ | refine zW ?_ | intro _ | exact zF | refine Br.tt ?_ | refine Br.ff ?_ | (refine Br.mk (fun h => ?_) (fun h => ?_) <;> (try simp only [sh] at h) <;> try first | (exfalso; omega) | exact absurd trivial h | (simp at h; done)) | refine zA ?_ | refine zN ?_ | refine zO ?_ | refine zP ?_ | refine zB ?_ | refine Ask.of (Gr.eqlS rfl rfl rfl rfl (eqs47 _ _ _ _ _ _)) ?_ | refine Ask.of (Gr.neqS rfl rfl rfl rfl (eqs47 _ _ _ _ _ _)) ?_ | refine Ask.of (Gr.eqlS rfl rfl rfl rfl (eqs28 _ _ _ _)) ?_ | refine Ask.of (Gr.neqS rfl rfl rfl rfl (eqs28 _ _ _ _)) ?_ | refine Ask.of (Gr.eqlS rfl rfl rfl rfl (eqs188 _ _ _ _)) ?_ | refine Ask.of (Gr.neqS rfl rfl rfl rfl (eqs188 _ _ _ _)) ?_ | refine Ask.of (Gr.eqlS rfl rfl rfl rfl (eqs68 _ _ _ _ _ _ _ _)) ?_ | refine Ask.of (Gr.neqS rfl rfl rfl rfl (eqs68 _ _ _ _ _ _ _ _)) ?_ | refine lB ?_ | refine lBA ?_ | refine rA ?_ | refine r1 ?_ | refine lM ?_ | refine lM0 ?_ | refine lMA ?_ | refine sM ?_ | refine nR ?_ | refine iR ?_ | refine lR ?_ | refine lR0 ?_ | refine lRA ?_ | refine zK ?_ | refine s1 ?_ | refine sA ?_ | refine LK.bsl rfl rfl rfl rfl ?_ | (refine LK.frzR 0 rfl ?_ <;> refine pF ?_) | refine pA ?_ | refine sR ?_ | refine Kx.nil ?_ | refine Kx.stp rfl rfl Qs ?_ | refine kA ?_ | (refine Kx.frzR 0 rfl ?_ <;> refine kF ?_) | refine kP ?_ | refine k1 ?_ | refine kB ?_ | refine kL ?_ | refine zC ?_ | fail))
  ·conv => whnf
   refine .out _ (by exact List.Sublist.cons _ (List.Sublist.refl _)) ⟨congrArg B ?_, rfl⟩
   have e := Lt_eq h.1 h.2.1 h.2.2
   refine (List.contains_iff_mem.2 ?_).symm
   rw [← e, getD_at' hk]
   exact List.getElem_mem _
  ·(conv => whnf); (refine Nxt.of (k + 1) [4, 5, 6, 7, 8, 9, 10, 11, 12, 13, 14, 15, 16, 17] Qr Qr Qr ?_ ?_ Qy Qs <;> (try dsimp only) <;> (try omega))
   refine ⟨hk, has_step hk (fun e => ?_) k2⟩
   rw [e] at h
   simp at h
 ·rw [List.take_of_length_le (by omega)] at k2
  repeat' ((conv => whnf) <;> (first | refine zM ?_ | refine zW ?_ | intro _ | exact zF | refine Br.tt ?_ | refine Br.ff ?_ | (refine Br.mk (fun h => ?_) (fun h => ?_) <;> (try simp only [sh] at h) <;> try first | (exfalso; omega) | exact absurd trivial h | (simp at h; done)) | refine zA ?_ | refine zN ?_ | refine zO ?_ | refine zP ?_ | refine zB ?_ | refine lB ?_ | refine lBA ?_ | refine rA ?_ | refine r1 ?_ | refine nR ?_ | refine iR ?_ | refine lR ?_ | refine lR0 ?_ | refine lRA ?_ | refine zK ?_ | refine s1 ?_ | refine sA ?_ | refine LK.bsl rfl rfl rfl rfl ?_ | (refine LK.frzR 0 rfl ?_ <;> refine pF ?_) | refine pA ?_ | refine sR ?_ | refine zC ?_ | fail))
  conv => whnf
  refine .out _ (by exact List.Sublist.cons _ (List.Sublist.refl _)) ⟨congrArg B ?_, rfl⟩
  rw [List.contains_eq_mem, decide_eq_false k2]
def z3 : Lt := ⟨0, 0, false⟩
def staC (out cl : List Lt) : Int × Lt := if opnL out cl = [] then (0, z3) else if uniC out cl then (1, litC out cl) else (2, z3)
theorem opn_take {out cl : List Lt} {k : Nat} (hk : k < cl.length) : opnL out (cl.take (k + 1)) = if !out.contains (negL (cl.getD k default)) && !(opnL out (cl.take k)).contains (cl.getD k default) then opnL out (cl.take k) ++ [cl.getD k default] else opnL out (cl.take k) := by
 unfold opnL openL
 rw [take_snocL hk, List.filter_append, List.filter_cons, List.filter_nil]
 cases h : out.contains (negL (cl.getD k default)) with
 | true => simp
 | false =>
  simp only [Bool.not_false, if_true, Bool.true_and]
  rw [ddL_snoc]
  cases (ddL (List.filter (fun l => !out.contains (negL l)) (cl.take k))).contains (cl.getD k default) <;> rfl
theorem sat_take {out cl : List Lt} {k : Nat} (hk : k < cl.length) : satL out (cl.take (k + 1)) = (satL out (cl.take k) || out.contains (cl.getD k default)) := by
 unfold satL
 rw [take_snocL hk, List.any_append]
 simp
theorem opn_len {out cl : List Lt} : (opnL out cl).length ≤ cl.length := by
 rw [opnL_eq]
 exact Nat.le_trans (List.length_filter_le _ _) (ddL_len _)
set_option maxRecDepth 4000 in
set_option maxHeartbeats 8000000 in
theorem g9State_ok (cl out : List Lt) (hc : cl.length ≤ 1000000) (ho : out.length ≤ 1000000) : FnA Tryz.prog 20 [.sl 3 (cl.map ltav), .sl 3 (out.map ltav)] (.tup [I (staC out cl).1, ltav (staC out cl).2]) := by
 have hcl : (cl.map ltav).length = cl.length := by simp
 refine fn_run (T := tab) Tryz.func20 rfl Tryz.ntmps20 rfl Tryz.results20 (fun _ => ?_)
 repeat' ((conv => whnf) <;> (first | refine zM ?_ | refine zW ?_ | intro _ | exact zF | refine Br.tt ?_ | refine Br.ff ?_ | (refine Br.mk (fun h => ?_) (fun h => ?_) <;> (try simp only [sh] at h) <;> try first | (exfalso; omega) | exact absurd trivial h | (simp at h; done)) | refine zA ?_ | refine zN ?_ | refine zO ?_ | refine zP ?_ | refine zB ?_ | refine lB ?_ | refine lBA ?_ | refine rA ?_ | refine r1 ?_ | refine zK ?_ | refine s1 ?_ | refine sA ?_ | refine zC ?_ | fail))
 rename_i b
 conv => whnf
 refine CK.nilrow 47 3 ?_
 (conv => whnf); refine CK.loopK [6, 7, 8, 9, 10, 11, 12, 13, 14, 15, 16, 17, 18, 19, 20, 21, 22, 23, 24, 25, 26, 27, 28, 29, 30, 31, 32, 33, 34, 35, 36, 37, 38, 39, 40, 41, 42, 43, 44, 45, 46, 47] (σ := Nat × Option Addr × Nat × Nat) (fun s => s.1 ≤ cl.length) (fun ⟨k, A, q, cp⟩ => [(8, I k), (7, B (satL out (cl.take k))), (6, .v (.slice A q cp))]) (fun ⟨k, A, q, cp⟩ => [Li (.slice A q cp) (opnL out (cl.take k)), .blk b 47 false [I 0, I 0, B false]]) [] (fun s => cl.length - s.1) (0, none, 0, 0) (Nat.zero_le _) Qy (List.Sublist.refl _) ?_
 conv => whnf
 rintro ⟨k, A, q, cp⟩ hk
 simp only at hk
 by_cases hkl : k < cl.length
 ·have c1 := g9Has_ok out (cl.getD k default) ho
  have c2 := g9not_ok (cl.getD k default)
  have c3 := g9Has_ok out (negL (cl.getD k default)) ho
  have c4 := fun c R => g9Has_row (c := c) (R := R) (.slice A q cp) (opnL out (cl.take k)) (cl.getD k default) (by have := opn_len (out := out) (cl := cl.take k); rw [List.length_take] at this; omega)
  have hot := opn_take (out := out) hkl
  have hst := sat_take (out := out) hkl
  have hol : ((opnL out (cl.take k)).map ltav).length = (opnL out (cl.take k)).length := by simp
  have hob := opn_len (out := out) (cl := cl.take k)
  rw [List.length_take] at hob
  repeat' ((conv => whnf) <;> (first | refine zM ?_ | refine zW ?_ | intro _ | exact zF | refine Br.tt ?_ | refine Br.ff ?_ | (refine Br.mk (fun h => ?_) (fun h => ?_) <;> (try simp only [sh] at h) <;> try first | (exfalso; omega) | exact absurd trivial h | (simp at h; done)) | refine zA ?_ | refine zN ?_ | refine zO ?_ | refine zP ?_ | refine zB ?_ | refine zL ent42 c1 ?_ | refine zG ent42 (fun h => c1) ?_ | refine zL ent43 c2 ?_ | refine zG ent43 (fun h => c2) ?_ | refine zL ent42 c3 ?_ | refine zG ent42 (fun h => c3) ?_ | (refine LK.callL ent42 (c4 _ _) rfl rfl Ql (fun _ _ hcall => ?_) <;> obtain ⟨rfl, rfl⟩ := hcall) | refine LK.callLW ent42 rfl ?_ (fun h => c4 _ _) rfl rfl Ql ?_ | refine lB ?_ | refine lBA ?_ | refine rA ?_ | refine r1 ?_ | refine zK ?_ | refine s1 ?_ | refine sA ?_ | refine pS ?_ | refine LK.gr (Gr.bslV rfl rfl rfl rfl) ?_ | refine Ask.of (Gr.bslV rfl rfl rfl rfl) ?_ | refine zC ?_ | refine zD ?_ | exact True.intro | fail))
  ·rename_i A2 q2 cp2
   rw [← hst]
   rw [h.1, h.2] at hot
   (conv => whnf); (refine Nxt.of ((k + 1, A2, q2, cp2)) [6, 7, 8, 9, 10, 11, 12, 13, 14, 15, 16, 17, 18, 19, 20, 21, 22, 23, 24, 25, 26, 27, 28, 29, 30, 31, 32, 33, 34, 35, 36, 37, 38, 39, 40, 41, 42, 43, 44, 45, 46, 47] Qr Qr Qr ?_ ?_ Qy ?_ <;> (try dsimp only) <;> (try omega))
   rw [hot, Li]
   simp only [Bool.not_false, Bool.and_self, if_true, List.map_append]
   exact Qs
  ·rw [← hst]
   have hot2 : opnL out (cl.take (k + 1)) = opnL out (cl.take k) := by
    rw [hot, if_neg]
    rcases h with h | h <;> rw [h] <;> simp
   (conv => whnf); (refine Nxt.of ((k + 1, A, q, cp)) [6, 7, 8, 9, 10, 11, 12, 13, 14, 15, 16, 17, 18, 19, 20, 21, 22, 23, 24, 25, 26, 27, 28, 29, 30, 31, 32, 33, 34, 35, 36, 37, 38, 39, 40, 41, 42, 43, 44, 45, 46, 47] Qr Qr Qr ?_ ?_ Qy ?_ <;> (try dsimp only) <;> (try omega))
   rw [hot2]
   exact Qs
 ·obtain rfl : k = cl.length := by omega
  dsimp only
  rw [List.take_length]
  have hol : ((opnL out cl).map ltav).length = (opnL out cl).length := by simp
  have hob := opn_len (out := out) (cl := cl)
  repeat' ((conv => whnf) <;> (first | refine CK.anyK (id := 12) [0, 1, 2, 3] [4] _ (List.Sublist.cons_cons _ (List.Sublist.cons _ (List.Sublist.refl _))) Qk ?_ | refine zM ?_ | refine zW ?_ | intro _ | exact zF | refine Br.tt ?_ | refine Br.ff ?_ | (refine Br.mk (fun h => ?_) (fun h => ?_) <;> (try simp only [sh] at h) <;> try first | (exfalso; omega) | exact absurd trivial h | (simp at h; done)) | refine zA ?_ | refine zN ?_ | refine zO ?_ | refine zP ?_ | refine zB ?_ | refine lB ?_ | refine lBA ?_ | refine rA ?_ | refine r1 ?_ | refine lM ?_ | refine lM0 ?_ | refine lMA ?_ | refine sM ?_ | refine nR ?_ | refine iR ?_ | refine lR ?_ | refine lR0 ?_ | refine lRA ?_ | refine zK ?_ | refine s1 ?_ | refine sA ?_ | refine LK.bsl rfl rfl rfl rfl ?_ | (refine LK.frzR 0 rfl ?_ <;> refine pF ?_) | refine pA ?_ | refine sR ?_ | refine Kx.nil ?_ | refine Kx.stp rfl rfl Qs ?_ | refine kA ?_ | (refine Kx.frzR 0 rfl ?_ <;> refine kF ?_) | refine kP ?_ | refine k1 ?_ | refine kB ?_ | refine kL ?_ | refine zC ?_ | exact True.intro | fail))
  ·conv => whnf
   refine .out _ (by exact List.nil_sublist _) ⟨?_, rfl⟩
   rw [staC, if_pos (List.length_eq_zero_iff.1 (by omega))]
   rfl
  ·conv => whnf
   refine .out _ (by exact List.nil_sublist _) ⟨?_, rfl⟩
   rw [staC, if_neg (fun e => by rw [e] at h; simp at h), if_pos (uniC_iff.2 ⟨by omega, h.2⟩)]
   rfl
  ·conv => whnf
   refine .out _ (by exact List.nil_sublist _) ⟨?_, rfl⟩
   rename_i h0
   rw [staC, if_neg (fun e => by rw [e] at h0; simp at h0), if_neg]
   ·rfl
   ·rw [uniC_iff]
    rintro ⟨h1, h2⟩
    rcases h with h | h
    ·omega
    ·rw [h2] at h; cases h
end Go.Proofs.YtjfnkmlnbaianaaGreat
namespace Go.Proofs.YtjfnkmlnbaianaaGreat
open Go.E2 Go.Wage
theorem find_snoc {α : Type} [Inhabited α] (f : α → Bool) {l : List α} {i : Nat} (hi : i < l.length) : (l.take (i + 1)).findIdx? f = match (l.take i).findIdx? f with
  | some j => some j
  | none => if f (l.getD i default) then some i else none := by
 rw [List.take_succ_eq_append_getElem hi, List.findIdx?_append, getD_at' hi]
 have : (l.take i).length = i := by rw [List.length_take]; omega
 cases (l.take i).findIdx? f with
 | some j => rfl
 | none =>
  simp only [List.findIdx?_singleton, this]
  cases f l[i] <;> simp
theorem find_of_take {α : Type} {f : α → Bool} {l : List α} {k j : Nat} (h : (l.take k).findIdx? f = some j) : l.findIdx? f = some j := by
 conv => lhs; rw [← List.take_append_drop k l]
 rw [List.findIdx?_append, h]
 rfl
theorem sta_fal {out c : List Lt} : (staC out c).1 = 0 ↔ falC out c = true := by
 unfold staC falC
 rw [decide_eq_true_eq]
 split
 ·rename_i h; simp [h]
 ·rename_i h
  split <;> simp [h]
theorem sta_uni {out c : List Lt} : (staC out c).1 = 1 ↔ uniC out c = true := by
 unfold staC
 split
 ·rename_i h
  simp [uniC, h]
 ·split
  ·rename_i h; simp [h]
  ·rename_i h; simp [h]
theorem sta_lit {out c : List Lt} (h : uniC out c = true) : (staC out c).2 = litC out c := by
 unfold staC
 rw [if_neg, if_pos h]
 intro e
 simp [uniC, e] at h
set_option maxRecDepth 4000 in
set_option maxHeartbeats 8000000 in
theorem g9Unit_raw (cs : List (List Lt)) (given : List Lt) (hc : cs.length ≤ 1000) (hb : ∀ c ∈ cs, c.length ≤ 1000) (hg : given.length ≤ 1000) :
  FnE Tryz.prog 14 [.sl 1 (clO cs), .sl 3 (given.map ltav)] fun r E => ∃ v m z, r = .tup [.v v, I (unitU cs given).2] ∧ E = [.row v 47 3 m z ((unitU cs given).1.map ltav)] := by
 have hcl : (clO cs).length = cs.length := by simp
 have hgl : (given.map ltav).length = given.length := by simp
 refine fn_run (T := tab) Tryz.func14 rfl Tryz.ntmps14 rfl Tryz.results14 (fun _ => ?_)
 repeat' ((conv => whnf) <;> (first | (refine LK.nilrow 47 3 ?_ <;> refine LK.eff (Eff.appS (T := tab) 0 rfl rfl rfl rfl rfl Qb (one_lits given) Qo) ?_ <;> rintro _ _ ⟨A, q, cp, rfl, rfl⟩) | refine zM ?_ | refine zW ?_ | intro _ | exact zF | refine Br.tt ?_ | refine Br.ff ?_ | (refine Br.mk (fun h => ?_) (fun h => ?_) <;> (try simp only [sh] at h) <;> try first | (exfalso; omega) | exact absurd trivial h | (simp at h; done)) | refine zA ?_ | refine zN ?_ | refine zO ?_ | refine zP ?_ | refine zB ?_ | refine lB ?_ | refine lBA ?_ | refine zK ?_ | refine s1 ?_ | refine sA ?_ | refine zC ?_ | fail))
 have hul := uns_le cs given
 (conv => whnf); refine CK.loopK [4, 5, 6, 7, 8, 9, 10, 11, 15, 16, 17, 18, 19, 20, 21, 22, 23, 24, 25, 26, 27, 28, 29, 30, 31, 32, 33, 34, 35, 36, 37, 38, 39, 40, 41, 42, 43, 44, 45, 46, 47, 48] (σ := List Lt × Option Addr × Nat × Nat × Nat) (fun s => refU cs (unsN cs s.1 + 1) s.1 = unitU cs given ∧ s.1.length + unsN cs s.1 ≤ 2000) (fun ⟨_, A, q, cp, _⟩ => [(6, .v (.slice A q cp))]) (fun ⟨out, A, q, cp, m⟩ => [.row (.slice A q cp) 47 3 m false (out.map ltav)]) [] (fun s => unsN cs s.1) (given, A, q, cp, 0) ⟨unitU_eq (by omega), by simp only; omega⟩ Qy (List.Sublist.refl _) ?_
 conv => whnf
 rintro ⟨out, A, q, cp, m⟩ ⟨i1, i2⟩
 simp only at i1 i2
 repeat' ((conv => whnf) <;> (first | refine zM ?_ | refine zW ?_ | intro _ | exact zF | refine Br.tt ?_ | refine Br.ff ?_ | (refine Br.mk (fun h => ?_) (fun h => ?_) <;> (try simp only [sh] at h) <;> try first | (exfalso; omega) | exact absurd trivial h | (simp at h; done)) | refine zA ?_ | refine zN ?_ | refine zO ?_ | refine zP ?_ | refine zB ?_ | refine lB ?_ | refine lBA ?_ | refine zK ?_ | refine s1 ?_ | refine sA ?_ | refine zC ?_ | fail))
 rename_i b8
 conv => whnf
 refine CK.frzR 1 rfl ?_
 (conv => whnf); refine CK.loopK [4, 5, 7, 9, 10, 11, 15, 16, 17, 18, 19, 20, 21, 22, 23, 24, 25, 26, 27, 28, 29, 30, 31, 32, 33, 34, 35, 36, 37, 38, 39, 40, 41] (σ := Nat × Int × Lt) (fun s => s.1 ≤ cs.length ∧ (cs.take s.1).findIdx? (falC out) = none ∧ (cs.take s.1).findIdx? (uniC out) = (if s.2.1 < 0 then none else some s.2.1.toNat) ∧ -1 ≤ s.2.1 ∧ s.2.1 < cs.length ∧ (0 ≤ s.2.1 → s.2.2 = litC out (cs.getD s.2.1.toNat default))) (fun ⟨i, u, _⟩ => [(9, I i), (7, I u)]) (fun ⟨_, _, nx⟩ => [.blk b8 47 false [I nx.du, I nx.wk, B nx.is], .row (.slice A q cp) 47 3 (out.map ltav).length true (out.map ltav)]) [] (fun s => cs.length - s.1) (0, -1, z3) ⟨Nat.zero_le _, rfl, rfl, by decide, by simp only; omega, fun h => by simp at h⟩ Qy (List.Sublist.refl _) ?_
 conv => whnf
 rintro ⟨i, u, nx⟩ ⟨j1, j2, j3, j4, j5, j6⟩
 simp only at j1 j2 j3 j4 j5 j6
 by_cases hi : i < cs.length
 ·have hcm : cs.getD i default ∈ cs := by rw [getD_at' hi]; exact List.getElem_mem _
  have c1 := g9State_ok (cs.getD i default) out (by have := hb _ hcm; omega) (by omega)
  have hff := find_snoc (falC out) hi
  have hfu := find_snoc (uniC out) hi
  rw [j2] at hff
  rw [j3] at hfu
  repeat' ((conv => whnf) <;> (first | (refine LK.see 26 rfl (Sb.row 1 rfl) ?_ <;> refine LK.callA ent20 c1 rfl rfl Ql ?_) | refine zM ?_ | refine zW ?_ | intro _ | exact zF | refine Br.tt ?_ | refine Br.ff ?_ | (refine Br.mk (fun h => ?_) (fun h => ?_) <;> (try simp only [sh] at h) <;> try first | (exfalso; omega) | exact absurd trivial h | (simp at h; done)) | refine zA ?_ | refine zN ?_ | refine zO ?_ | refine zP ?_ | refine zB ?_ | refine lB ?_ | refine lBA ?_ | refine zK ?_ | refine s1 ?_ | refine sA ?_ | refine zC ?_ | fail))
  ·conv => whnf
   have e : unitU cs given = (out, (i : Int)) := by
    rw [if_pos (sta_fal.1 h)] at hff
    rw [← i1, refU, find_of_take hff]
   rw [e]
   exact .out _ (by exact List.Sublist.cons _ (List.Sublist.cons _ (List.Sublist.refl _))) ⟨_, _, _, rfl, rfl⟩
  ·rename_i h0
   have hnf : ¬ falC out (cs.getD i default) = true := fun e => h0 (sta_fal.2 e)
   have hun := sta_uni.1 h.1
   (conv => whnf); (refine Nxt.of ((i + 1, (i : Int), (staC out (cs.getD i default)).2)) [4, 5, 7, 9, 10, 11, 15, 16, 17, 18, 19, 20, 21, 22, 23, 24, 25, 26, 27, 28, 29, 30, 31, 32, 33, 34, 35, 36, 37, 38, 39, 40, 41] Qr Qr Qr ?_ ?_ Qy Qs <;> (try dsimp only) <;> (try omega))
   rw [if_neg hnf] at hff
   rw [if_pos h.2, if_pos hun] at hfu
   exact ⟨hi, hff, by rw [if_neg (by omega)]; exact hfu, by omega, by omega, fun _ => sta_lit hun⟩
  ·rename_i h0
   have hnf : ¬ falC out (cs.getD i default) = true := fun e => h0 (sta_fal.2 e)
   (conv => whnf); (refine Nxt.of ((i + 1, u, nx)) [4, 5, 7, 9, 10, 11, 15, 16, 17, 18, 19, 20, 21, 22, 23, 24, 25, 26, 27, 28, 29, 30, 31, 32, 33, 34, 35, 36, 37, 38, 39, 40, 41] Qr Qr Qr ?_ ?_ Qy Qs <;> (try dsimp only) <;> (try omega))
   rw [if_neg hnf] at hff
   refine ⟨hi, hff, ?_, j4, j5, j6⟩
   by_cases hu : u < 0
   ·rw [if_pos hu] at hfu ⊢
    rw [if_neg (fun e => by have := sta_uni.2 e; omega)] at hfu
    exact hfu
   ·rw [if_neg hu] at hfu ⊢
    exact hfu
 ·obtain rfl : i = cs.length := by omega
  rw [List.take_length] at j2 j3
  have hol : (out.map ltav).length = out.length := by simp
  repeat' ((conv => whnf) <;> (first | refine zM ?_ | refine zW ?_ | intro _ | exact zF | refine Br.tt ?_ | refine Br.ff ?_ | (refine Br.mk (fun h => ?_) (fun h => ?_) <;> (try simp only [sh] at h) <;> try first | (exfalso; omega) | exact absurd trivial h | (simp at h; done)) | refine zA ?_ | refine zN ?_ | refine zO ?_ | refine zP ?_ | refine zB ?_ | refine lB ?_ | refine lBA ?_ | refine zK ?_ | refine s1 ?_ | refine sA ?_ | refine pS ?_ | refine LK.gr (Gr.bslV rfl rfl rfl rfl) ?_ | refine Ask.of (Gr.bslV rfl rfl rfl rfl) ?_ | refine zC ?_ | refine zD ?_ | fail))
  ·conv => whnf
   have e : unitU cs given = (out, -1) := by
    rw [if_pos h] at j3
    rw [← i1, refU, j2]
    dsimp only
    rw [j3]
   rw [e]
   exact .out _ (by exact List.Sublist.cons _ (List.Sublist.refl _)) ⟨_, _, _, rfl, rfl⟩
  ·rename_i A2 q2 cp2
   rw [if_neg (by omega)] at j3
   have hup := uns_pos j3
   have hnx := j6 h
   rw [← hnx] at hup
   (conv => whnf); (refine Nxt.of ((out ++ [nx], A2, q2, cp2, (out.map ltav).length)) [4, 5, 6, 7, 8, 9, 10, 11, 15, 16, 17, 18, 19, 20, 21, 22, 23, 24, 25, 26, 27, 28, 29, 30, 31, 32, 33, 34, 35, 36, 37, 38, 39, 40, 41, 42, 43, 44, 45, 46, 47, 48] Qr Qr Qr ?_ ?_ Qy ?_ <;> (try dsimp only) <;> (try omega))
   ·refine ⟨?_, by simp only [List.length_append, List.length_singleton]; omega⟩
    rw [← i1]
    conv => rhs; rw [refU, j2]
    dsimp only
    rw [j3]
    dsimp only
    rw [← hnx]
    exact refU_more _ _ _ (by omega) hup
   ·rw [List.map_append]
    exact Qs
theorem g9Unit_ok (cs : List (List Lt)) (given : List Lt) (hc : cs.length ≤ 1000) (hb : ∀ c ∈ cs, c.length ≤ 1000) (hg : given.length ≤ 1000) :
  FnA Tryz.prog 14 [.sl 1 (clO cs), .sl 3 (given.map ltav)] (.tup [.sl 3 ((unitU cs given).1.map ltav), I (unitU cs given).2]) := by
 refine FnE.turn (g9Unit_raw cs given hc hb hg) ?_
 rintro _ _ ⟨v, m, z, rfl, rfl⟩
 refine ⟨_, [], ⟨rfl, rfl⟩, fun c H w h0 => ?_⟩
 obtain ⟨H1, l1, s1⟩ := h0.freezeRow (i := 0) rfl
 exact ⟨H1, l1, s1.sub (List.nil_sublist _), fun v hr => Sb.rel s1 (.tup (.cons (.row 0 rfl) (.cons (.refl _) .nil))) hr⟩
end Go.Proofs.YtjfnkmlnbaianaaGreat
namespace Go.Proofs.YtjfnkmlnbaianaaGreat
open Go.E2 Go.Wage
def sgav (s : Sg) : AV := .agg [.sl 3 (s.cl.map ltav), I s.rule, .sl 1 (s.frm.map I)]
theorem take_eq {α : Type} [Inhabited α] {a b : List α} {k : Nat} (hl : a.length = b.length) (hk : k < a.length) (h : a.take k = b.take k) (e : a.getD k default = b.getD k default) : a.take (k + 1) = b.take (k + 1) := by
 rw [List.take_succ_eq_append_getElem hk, List.take_succ_eq_append_getElem (by omega), h, ← getD_at' hk, ← getD_at' (by omega), e]
theorem g9Same_ok (a b : List Lt) (_ha : a.length ≤ 1000000) (hb : b.length ≤ 1000000) : FnA Tryz.prog 18 [.sl 3 (a.map ltav), .sl 3 (b.map ltav)] (B (decide (a = b))) := by
 have hla : (a.map ltav).length = a.length := by simp
 have hlb : (b.map ltav).length = b.length := by simp
 refine fn_run (T := tab) Tryz.func18 rfl Tryz.ntmps18 rfl Tryz.results18 (fun _ => ?_)
 by_cases hl : a.length = b.length
 ·repeat' ((conv => whnf) <;> (first | refine zM ?_ | refine zW ?_ | intro _ | exact zF | refine Br.tt ?_ | refine Br.ff ?_ | (refine Br.mk (fun h => ?_) (fun h => ?_) <;> (try simp only [sh] at h) <;> try first | (exfalso; omega) | exact absurd trivial h | (simp at h; done)) | refine zA ?_ | refine zN ?_ | refine zO ?_ | refine zP ?_ | refine zB ?_ | refine lB ?_ | refine lBA ?_ | refine zK ?_ | refine s1 ?_ | refine sA ?_ | refine zC ?_ | fail))
  (conv => whnf); refine CK.loopK [4, 5, 11, 12, 13, 14, 15, 16, 17, 18, 19, 20, 21, 22, 23, 24, 25] (σ := Nat) (fun k => k ≤ a.length ∧ a.take k = b.take k) (fun k => [(5, I k)]) (fun _ => []) [] (fun k => a.length - k) 0 ⟨Nat.zero_le _, rfl⟩ Qy (List.Sublist.refl _) ?_
  conv => whnf
  rintro k ⟨i1, i2⟩
  by_cases hk : k < a.length
  ·repeat' ((conv => whnf) <;> (first | refine CK.anyK (id := 6) [0, 1, 2, 3, 4, 5, 6, 7, 8] [] _ (List.Sublist.refl _) Qk ?_ | refine zM ?_ | refine zW ?_ | intro _ | exact zF | refine Br.tt ?_ | refine Br.ff ?_ | (refine Br.mk (fun h => ?_) (fun h => ?_) <;> (try simp only [sh] at h) <;> try first | (exfalso; omega) | exact absurd trivial h | (simp at h; done)) | refine zA ?_ | refine zN ?_ | refine zO ?_ | refine zP ?_ | refine zB ?_ | refine Ask.of (Gr.eqlS rfl rfl rfl rfl (eqs47 _ _ _ _ _ _)) ?_ | refine Ask.of (Gr.neqS rfl rfl rfl rfl (eqs47 _ _ _ _ _ _)) ?_ | refine Ask.of (Gr.eqlS rfl rfl rfl rfl (eqs28 _ _ _ _)) ?_ | refine Ask.of (Gr.neqS rfl rfl rfl rfl (eqs28 _ _ _ _)) ?_ | refine Ask.of (Gr.eqlS rfl rfl rfl rfl (eqs188 _ _ _ _)) ?_ | refine Ask.of (Gr.neqS rfl rfl rfl rfl (eqs188 _ _ _ _)) ?_ | refine Ask.of (Gr.eqlS rfl rfl rfl rfl (eqs68 _ _ _ _ _ _ _ _)) ?_ | refine Ask.of (Gr.neqS rfl rfl rfl rfl (eqs68 _ _ _ _ _ _ _ _)) ?_ | refine lB ?_ | refine lBA ?_ | refine zK ?_ | refine s1 ?_ | refine sA ?_ | refine Kx.nil ?_ | refine Kx.stp rfl rfl Qs ?_ | refine kA ?_ | (refine Kx.frzR 0 rfl ?_ <;> refine kF ?_) | refine kP ?_ | refine k1 ?_ | refine kB ?_ | refine kL ?_ | refine zC ?_ | fail))
   ·conv => whnf
    refine .out _ (by exact List.nil_sublist _) ⟨congrArg B ?_, rfl⟩
    refine (decide_eq_false fun e => ?_).symm
    rw [e] at h
    simp at h
   ·(conv => whnf); (refine Nxt.of (k + 1) [4, 5, 11, 12, 13, 14, 15, 16, 17, 18, 19, 20, 21, 22, 23, 24, 25] Qr Qr Qr ?_ ?_ Qy Qs <;> (try dsimp only) <;> (try omega))
    exact ⟨hk, take_eq hl hk i2 (Lt_eq h.1 h.2.1 h.2.2)⟩
  ·rw [List.take_of_length_le (by omega), List.take_of_length_le (by omega)] at i2
   repeat' ((conv => whnf) <;> (first | refine zM ?_ | refine zW ?_ | intro _ | exact zF | refine Br.tt ?_ | refine Br.ff ?_ | (refine Br.mk (fun h => ?_) (fun h => ?_) <;> (try simp only [sh] at h) <;> try first | (exfalso; omega) | exact absurd trivial h | (simp at h; done)) | refine zA ?_ | refine zN ?_ | refine zO ?_ | refine zP ?_ | refine zB ?_ | refine lB ?_ | refine lBA ?_ | refine zK ?_ | refine s1 ?_ | refine sA ?_ | refine zC ?_ | fail))
   conv => whnf
   exact .out _ (by exact List.nil_sublist _) ⟨congrArg B (decide_eq_true i2).symm, rfl⟩
 ·repeat' ((conv => whnf) <;> (first | refine zM ?_ | refine zW ?_ | intro _ | exact zF | refine Br.tt ?_ | refine Br.ff ?_ | (refine Br.mk (fun h => ?_) (fun h => ?_) <;> (try simp only [sh] at h) <;> try first | (exfalso; omega) | exact absurd trivial h | (simp at h; done)) | refine zA ?_ | refine zN ?_ | refine zO ?_ | refine zP ?_ | refine zB ?_ | refine lB ?_ | refine lBA ?_ | refine zK ?_ | refine s1 ?_ | refine sA ?_ | refine zC ?_ | fail))
  ·conv => whnf
   exact .out _ (by exact List.nil_sublist _) ⟨congrArg B (decide_eq_false fun e => hl (by rw [e])).symm, rfl⟩
set_option maxRecDepth 4000 in
set_option maxHeartbeats 8000000 in
theorem g9SameSteps_ok (a : List Sg) (ha : a.length ≤ 1000000) (hb : ∀ s ∈ a, s.cl.length ≤ 1000000 ∧ s.frm.length ≤ 1000000) : FnA Tryz.prog 15 [.sl 3 (a.map sgav), .sl 3 (a.map sgav)] (B true) := by
 have hla : (a.map sgav).length = a.length := by simp
 refine fn_run (T := tab) Tryz.func15 rfl Tryz.ntmps15 rfl Tryz.results15 (fun _ => ?_)
 repeat' ((conv => whnf) <;> (first | refine zM ?_ | refine zW ?_ | intro _ | exact zF | refine Br.tt ?_ | refine Br.ff ?_ | (refine Br.mk (fun h => ?_) (fun h => ?_) <;> (try simp only [sh] at h) <;> try first | (exfalso; omega) | exact absurd trivial h | (simp at h; done)) | refine zA ?_ | refine zN ?_ | refine zO ?_ | refine zP ?_ | refine zB ?_ | refine lB ?_ | refine lBA ?_ | refine zK ?_ | refine s1 ?_ | refine sA ?_ | refine zC ?_ | fail))
 (conv => whnf); refine CK.loopK [4, 5, 11, 12, 13, 14, 15, 16, 17, 18, 19, 20, 21, 22, 23, 24, 25, 26, 27, 28, 29, 30, 31, 32, 33, 34, 35, 36, 37, 38, 39, 40, 41, 42, 43, 44, 45, 46, 47, 48, 49, 50, 51, 52, 53, 54, 55, 56] (σ := Nat) (fun k => k ≤ a.length) (fun k => [(5, I k)]) (fun _ => []) [] (fun k => a.length - k) 0 (Nat.zero_le _) Qy (List.Sublist.refl _) ?_
 conv => whnf
 rintro k i1
 by_cases hk : k < a.length
 ·have hm := hb (a.getD k default) (by rw [getD_at' hk]; exact List.getElem_mem _)
  have c1 := g9Same_ok (a.getD k default).cl (a.getD k default).cl hm.1 hm.1
  rw [decide_eq_true rfl] at c1
  have hlf : ((a.getD k default).frm.map I).length = (a.getD k default).frm.length := by simp
  repeat' ((conv => whnf) <;> (first | refine CK.anyK (id := 6) [0, 1, 2, 3, 4, 5, 6, 7, 8, 9, 10, 11, 12, 13, 14, 15, 16, 17, 18, 19, 20, 21, 22, 23, 24, 25, 26, 27, 28, 29, 30, 31, 32, 33, 34, 35, 36, 37, 38, 39] [] _ (List.Sublist.refl _) Qk ?_ | refine zM ?_ | refine zW ?_ | intro _ | exact zF | refine Br.tt ?_ | refine Br.ff ?_ | (refine Br.mk (fun h => ?_) (fun h => ?_) <;> (try simp only [sh] at h) <;> try first | (exfalso; omega) | exact absurd trivial h | (simp at h; done)) | refine zA ?_ | refine zN ?_ | refine zO ?_ | refine zP ?_ | refine zB ?_ | refine zL ent18 c1 ?_ | refine zG ent18 (fun h => c1) ?_ | refine Ask.of (Gr.eqlS rfl rfl rfl rfl (eqs47 _ _ _ _ _ _)) ?_ | refine Ask.of (Gr.neqS rfl rfl rfl rfl (eqs47 _ _ _ _ _ _)) ?_ | refine Ask.of (Gr.eqlS rfl rfl rfl rfl (eqs28 _ _ _ _)) ?_ | refine Ask.of (Gr.neqS rfl rfl rfl rfl (eqs28 _ _ _ _)) ?_ | refine Ask.of (Gr.eqlS rfl rfl rfl rfl (eqs188 _ _ _ _)) ?_ | refine Ask.of (Gr.neqS rfl rfl rfl rfl (eqs188 _ _ _ _)) ?_ | refine Ask.of (Gr.eqlS rfl rfl rfl rfl (eqs68 _ _ _ _ _ _ _ _)) ?_ | refine Ask.of (Gr.neqS rfl rfl rfl rfl (eqs68 _ _ _ _ _ _ _ _)) ?_ | refine lB ?_ | refine lBA ?_ | refine zK ?_ | refine s1 ?_ | refine sA ?_ | refine Kx.nil ?_ | refine Kx.stp rfl rfl Qs ?_ | refine kA ?_ | (refine Kx.frzR 0 rfl ?_ <;> refine kF ?_) | refine kP ?_ | refine k1 ?_ | refine kB ?_ | refine kL ?_ | refine zC ?_ | exact True.intro | fail))
  (conv => whnf); (refine Nxt.of (k + 1) [4, 5, 11, 12, 13, 14, 15, 16, 17, 18, 19, 20, 21, 22, 23, 24, 25, 26, 27, 28, 29, 30, 31, 32, 33, 34, 35, 36, 37, 38, 39, 40, 41, 42, 43, 44, 45, 46, 47, 48, 49, 50, 51, 52, 53, 54, 55, 56] Qr Qr Qr ?_ ?_ Qy Qs <;> (try dsimp only) <;> (try omega))
 ·repeat' ((conv => whnf) <;> (first | refine zM ?_ | refine zW ?_ | intro _ | exact zF | refine Br.tt ?_ | refine Br.ff ?_ | (refine Br.mk (fun h => ?_) (fun h => ?_) <;> (try simp only [sh] at h) <;> try first | (exfalso; omega) | exact absurd trivial h | (simp at h; done)) | refine zA ?_ | refine zN ?_ | refine zO ?_ | refine zP ?_ | refine zB ?_ | refine lB ?_ | refine lBA ?_ | refine zK ?_ | refine s1 ?_ | refine sA ?_ | refine zC ?_ | fail))
end Go.Proofs.YtjfnkmlnbaianaaGreat
namespace Go.Proofs.YtjfnkmlnbaianaaGreat
open Go.E2 Go.Wage
theorem dmNot_ok (d w : Int) : FnA Tryz.prog 40 [I d, I w] (ltav ⟨d, w, false⟩) := by
 refine fn_run (T := tab) Tryz.func40 rfl Tryz.ntmps40 rfl Tryz.results40 (fun _ => ?_)
 repeat' ((conv => whnf) <;> (first | refine zM ?_ | refine zW ?_ | intro _ | exact zF | refine Fin.pure ?_ | refine Br.tt ?_ | refine Br.ff ?_ | (refine Br.mk (fun h => ?_) (fun h => ?_) <;> (try simp only [sh] at h) <;> try first | (exfalso; omega) | exact absurd trivial h | (simp at h; done)) | refine zA ?_ | refine zN ?_ | refine zO ?_ | refine zP ?_ | refine zB ?_ | refine lB ?_ | refine lBA ?_ | refine rA ?_ | refine r1 ?_ | refine zK ?_ | refine s1 ?_ | refine sA ?_ | refine zC ?_ | fail))
theorem dmDen_ok (rule : Int) (ls : List Lt) (hl : ls.length ≤ 1000000) : FnA Tryz.prog 39 [I rule, .sl 3 (ls.map ltav)] (sgav ⟨ls, rule, []⟩) := by
 have hll : (ls.map ltav).length = ls.length := by simp
 refine FnE.turn (Φ := fun r E => ∃ v, r = .agg [.v v, I rule, .v (.slice none 0 0)] ∧ E = [Li v ls]) ?_ ?_
 ·refine fn_run (T := tab) Tryz.func39 rfl Tryz.ntmps39 rfl Tryz.results39 (fun _ => ?_)
  repeat' ((conv => whnf) <;> (first | (refine LK.nilrow 47 3 ?_ <;> refine LK.eff (Eff.appS (T := tab) 0 rfl rfl rfl rfl rfl Qb (one_lits ls) Qo) ?_ <;> rintro _ _ ⟨A, q, cp, rfl, rfl⟩) | refine zM ?_ | refine zW ?_ | intro _ | exact zF | refine Br.tt ?_ | refine Br.ff ?_ | (refine Br.mk (fun h => ?_) (fun h => ?_) <;> (try simp only [sh] at h) <;> try first | (exfalso; omega) | exact absurd trivial h | (simp at h; done)) | refine zA ?_ | refine zN ?_ | refine zO ?_ | refine zP ?_ | refine zB ?_ | refine lB ?_ | refine lBA ?_ | refine rA ?_ | refine r1 ?_ | refine zK ?_ | refine s1 ?_ | refine sA ?_ | refine zC ?_ | fail))
  conv => whnf
  exact .out _ (by exact List.Sublist.cons_cons _ (List.nil_sublist _)) ⟨_, rfl, rfl⟩
 ·rintro _ _ ⟨v, rfl, rfl⟩
  refine ⟨_, [], ⟨rfl, rfl⟩, fun c H w h0 => ?_⟩
  obtain ⟨H1, l1, s1⟩ := h0.freezeRow (i := 0) rfl
  exact ⟨H1, l1, s1.sub (List.nil_sublist _), fun v hr => Sb.rel s1 (.agg (.cons (.row 0 rfl) (.cons (.refl _) (.cons .nil .nil)))) hr⟩
abbrev Lg (v : Value) (log : List Sg) : Ent := .row v 57 3 0 false (log.map sgav)
set_option maxRecDepth 4000 in
set_option maxHeartbeats 8000000 in
theorem dmEx_raw (n m : Nat) (hn : n ≤ 100) (hm : m ≤ 100) : FnE Tryz.prog 36 [I n, I m] fun r E => ∃ v, r = .v v ∧ E = [Lg v (exP n m)] := by
 refine fn_run (T := tab) Tryz.func36 rfl Tryz.ntmps36 rfl Tryz.results36 (fun _ => ?_)
 have hmm : m * m ≤ 100 * 100 := Nat.mul_le_mul hm hm
 conv => whnf
 refine CK.nilrow 57 3 ?_
 (conv => whnf); refine CK.loopK [5, 6, 7, 8, 13, 14, 15, 16, 17, 18, 19, 20, 21, 22, 23, 24, 25, 26, 27, 28, 29, 30, 31, 32] (σ := Nat × Value) (fun s => s.1 ≤ n) (fun ⟨d, v⟩ => [(13, I d), (5, .v v)]) (fun ⟨d, v⟩ => [Lg v (seqL (fun d => [⟨yesS d m, 1, []⟩]) d)]) [] (fun s => n - s.1) (0, .slice none 0 0) (Nat.zero_le _) Qy (List.Sublist.refl _) ?_
 conv => whnf
 rintro ⟨d, v⟩ hd
 simp only at hd
 have hl1 := ex1_len d m
 have hl2 : ((seqL (fun d => [(⟨yesS d m, 1, []⟩ : Sg)]) d).map sgav).length = (seqL (fun d => [(⟨yesS d m, 1, []⟩ : Sg)]) d).length := by simp
 by_cases hdn : d < n
 ·repeat' ((conv => whnf) <;> (first | refine zM ?_ | refine zW ?_ | intro _ | exact zF | refine Br.tt ?_ | refine Br.ff ?_ | (refine Br.mk (fun h => ?_) (fun h => ?_) <;> (try simp only [sh] at h) <;> try first | (exfalso; omega) | exact absurd trivial h | (simp at h; done)) | refine zA ?_ | refine zN ?_ | refine zO ?_ | refine zP ?_ | refine zB ?_ | refine lB ?_ | refine lBA ?_ | refine rA ?_ | refine r1 ?_ | refine zK ?_ | refine s1 ?_ | refine sA ?_ | refine zC ?_ | fail))
  conv => whnf
  refine CK.nilrow 47 3 ?_
  (conv => whnf); refine CK.loopG [7, 8, 17, 18, 19, 20, 21, 22, 23, 24, 25, 26] (σ := Nat × Value) (fun s => s.1 ≤ m) (fun ⟨w, lv⟩ => [(17, I w), (7, .v lv)]) (fun ⟨w, lv⟩ => [Li lv (yesS d w), Lg v (seqL (fun d => [⟨yesS d m, 1, []⟩]) d)]) [] (fun s => m - s.1) (0, .slice none 0 0) (Nat.zero_le _) Qy (List.Sublist.refl _) ?_
  conv => whnf
  rintro ⟨w, lv⟩ hw
  simp only at hw
  have hl3 : ((yesS d w).map ltav).length = w := by rw [List.length_map, yesS_len]
  by_cases hwm : w < m
  ·repeat' ((conv => whnf) <;> (first | refine zM ?_ | refine zW ?_ | intro _ | exact zF | refine Br.tt ?_ | refine Br.ff ?_ | (refine Br.mk (fun h => ?_) (fun h => ?_) <;> (try simp only [sh] at h) <;> try first | (exfalso; omega) | exact absurd trivial h | (simp at h; done)) | refine zA ?_ | refine zN ?_ | refine zO ?_ | refine zP ?_ | refine zB ?_ | refine lB ?_ | refine lBA ?_ | refine rA ?_ | refine r1 ?_ | refine zK ?_ | refine s1 ?_ | refine sA ?_ | refine pS ?_ | refine LK.gr (Gr.bslV rfl rfl rfl rfl) ?_ | refine Ask.of (Gr.bslV rfl rfl rfl rfl) ?_ | refine zC ?_ | refine zD ?_ | fail))
   rename_i A q cp
   (conv => whnf); (refine Nxt.of ((w + 1, Value.slice A q cp)) [7, 8, 17, 18, 19, 20, 21, 22, 23, 24, 25, 26] Qr Qr Qr ?_ ?_ Qy ?_ <;> (try dsimp only) <;> (try omega))
   rw [yesS_succ, Li, List.map_append]
   exact Qs
  ·obtain rfl : w = m := by omega
   have c1 := dmDen_ok 1 (yesS d w) (by rw [yesS_len]; omega)
   repeat' ((conv => whnf) <;> (first | (refine Gst.frzR 0 rfl ?_ <;> refine Gst.see 7 rfl (Sb.row 0 rfl) ?_ <;> refine Gst.weak _ (fun _ _ hh => hh) (List.Sublist.cons _ (List.Sublist.refl _)) ?_ <;> refine Gst.done ?_) | refine zM ?_ | refine zW ?_ | intro _ | exact zF | refine Br.tt ?_ | refine Br.ff ?_ | (refine Br.mk (fun h => ?_) (fun h => ?_) <;> (try simp only [sh] at h) <;> try first | (exfalso; omega) | exact absurd trivial h | (simp at h; done)) | refine zA ?_ | refine zN ?_ | refine zO ?_ | refine zP ?_ | refine zB ?_ | refine zL ent39 c1 ?_ | refine zG ent39 (fun h => c1) ?_ | refine lB ?_ | refine lBA ?_ | refine rA ?_ | refine r1 ?_ | refine zK ?_ | refine s1 ?_ | refine sA ?_ | refine pS ?_ | refine LK.gr (Gr.bslV rfl rfl rfl rfl) ?_ | refine Ask.of (Gr.bslV rfl rfl rfl rfl) ?_ | refine zC ?_ | refine zD ?_ | fail))
   rename_i A q cp
   (conv => whnf); (refine Nxt.of ((d + 1, Value.slice A q cp)) [5, 6, 7, 8, 13, 14, 15, 16, 17, 18, 19, 20, 21, 22, 23, 24, 25, 26, 27, 28, 29, 30, 31, 32] Qr Qr Qr ?_ ?_ Qy ?_ <;> (try dsimp only) <;> (try omega))
   rw [seqL_succ, Lg, List.map_append]
   exact Qs
 ·obtain rfl : d = n := by omega
  repeat' ((conv => whnf) <;> (first | refine zM ?_ | refine zW ?_ | intro _ | exact zF | refine Br.tt ?_ | refine Br.ff ?_ | (refine Br.mk (fun h => ?_) (fun h => ?_) <;> (try simp only [sh] at h) <;> try first | (exfalso; omega) | exact absurd trivial h | (simp at h; done)) | refine zA ?_ | refine zN ?_ | refine zO ?_ | refine zP ?_ | refine zB ?_ | refine lB ?_ | refine lBA ?_ | refine rA ?_ | refine r1 ?_ | refine zK ?_ | refine s1 ?_ | refine sA ?_ | refine zC ?_ | fail))
  (conv => whnf); refine CK.loopK [5, 9, 10, 11, 34, 35, 36, 37, 38, 39, 40, 41, 42, 43, 44, 45, 46, 47, 48, 49, 50, 51, 52, 53, 54, 55, 56, 57, 58, 59, 60] (σ := Nat × Value) (fun s => s.1 ≤ d) (fun ⟨e, v⟩ => [(34, I e), (5, .v v)]) (fun ⟨e, v⟩ => [Lg v (seqL (fun d => [⟨yesS d m, 1, []⟩]) d ++ seqL (fun d => seqL (fun v => aftL (oneS d v) v m) m) e)]) [] (fun s => d - s.1) (0, v) (Nat.zero_le _) Qy (by dsimp only; simp only [seqL_zero, List.append_nil]; exact List.Sublist.refl _) ?_
  conv => whnf
  rintro ⟨e, v⟩ he
  simp only at he
  by_cases hed : e < d
  ·repeat' ((conv => whnf) <;> (first | refine zM ?_ | refine zW ?_ | intro _ | exact zF | refine Br.tt ?_ | refine Br.ff ?_ | (refine Br.mk (fun h => ?_) (fun h => ?_) <;> (try simp only [sh] at h) <;> try first | (exfalso; omega) | exact absurd trivial h | (simp at h; done)) | refine zA ?_ | refine zN ?_ | refine zO ?_ | refine zP ?_ | refine zB ?_ | refine lB ?_ | refine lBA ?_ | refine rA ?_ | refine r1 ?_ | refine zK ?_ | refine s1 ?_ | refine sA ?_ | refine zC ?_ | fail))
   (conv => whnf); refine CK.loopK [5, 10, 11, 38, 39, 40, 41, 42, 43, 44, 45, 46, 47, 48, 49, 50, 51, 52, 53, 54, 55, 56, 57, 58, 59] (σ := Nat × Value) (fun s => s.1 ≤ m) (fun ⟨f, v⟩ => [(38, I f), (5, .v v)]) (fun ⟨f, v⟩ => [Lg v (seqL (fun d => [⟨yesS d m, 1, []⟩]) d ++ seqL (fun d => seqL (fun v => aftL (oneS d v) v m) m) e ++ seqL (fun v => aftL (oneS e v) v m) f)]) [] (fun s => m - s.1) (0, v) (Nat.zero_le _) Qy (by dsimp only; simp only [seqL_zero, List.append_nil]; exact List.Sublist.refl _) ?_
   conv => whnf
   rintro ⟨f, v⟩ hf
   simp only at hf
   by_cases hfm : f < m
   ·repeat' ((conv => whnf) <;> (first | refine zM ?_ | refine zW ?_ | intro _ | exact zF | refine Br.tt ?_ | refine Br.ff ?_ | (refine Br.mk (fun h => ?_) (fun h => ?_) <;> (try simp only [sh] at h) <;> try first | (exfalso; omega) | exact absurd trivial h | (simp at h; done)) | refine zA ?_ | refine zN ?_ | refine zO ?_ | refine zP ?_ | refine zB ?_ | refine lB ?_ | refine lBA ?_ | refine rA ?_ | refine r1 ?_ | refine zK ?_ | refine s1 ?_ | refine sA ?_ | refine zC ?_ | fail))
    (conv => whnf); refine CK.loopK [5, 11, 43, 44, 45, 46, 47, 48, 49, 50, 51, 52, 53, 54, 55, 56, 57, 58] (σ := Nat × Value) (fun s => f + 1 ≤ s.1 ∧ s.1 ≤ m) (fun ⟨g, v⟩ => [(11, I g), (5, .v v)]) (fun ⟨g, v⟩ => [Lg v (seqL (fun d => [⟨yesS d m, 1, []⟩]) d ++ seqL (fun d => seqL (fun v => aftL (oneS d v) v m) m) e ++ seqL (fun v => aftL (oneS e v) v m) f ++ aftL (oneS e f) f g)]) [] (fun s => m - s.1) (f + 1, v) ⟨Nat.le_refl _, hfm⟩ Qy (by dsimp only; simp only [aftL_zero, List.append_nil]; exact List.Sublist.refl _) ?_
    conv => whnf
    rintro ⟨g, v⟩ ⟨hg1, hg2⟩
    simp only at hg1 hg2
    by_cases hgm : g < m
    ·have c1 := dmNot_ok (e : Int) (f : Int)
     have c2 := dmNot_ok (e : Int) (g : Int)
     have c3 := dmDen_ok 2 [⟨(e : Int), (f : Int), false⟩, ⟨(e : Int), (g : Int), false⟩] (by simp)
     have h4 : ((seqL (fun d => [(⟨yesS d m, 1, []⟩ : Sg)]) d ++ seqL (fun d => seqL (fun v => aftL (oneS d v) v m) m) e ++ seqL (fun v => aftL (oneS e v) v m) f ++ aftL (oneS e f) f g).map sgav).length ≤ 2000000 := by
      have h1 := ex4_len e m
      have h2 := ex3_len e f m
      have h3 := ex2_len e f g
      have h5 : e * (m * m) ≤ 100 * (100 * 100) := Nat.mul_le_mul (by omega) hmm
      have h6 : f * m ≤ 100 * 100 := Nat.mul_le_mul (by omega) hm
      rw [List.length_map, List.length_append, List.length_append, List.length_append]
      omega
     repeat' ((conv => whnf) <;> (first | refine zM ?_ | refine zW ?_ | intro _ | exact zF | refine Br.tt ?_ | refine Br.ff ?_ | (refine Br.mk (fun h => ?_) (fun h => ?_) <;> (try simp only [sh] at h) <;> try first | (exfalso; omega) | exact absurd trivial h | (simp at h; done)) | refine zA ?_ | refine zN ?_ | refine zO ?_ | refine zP ?_ | refine zB ?_ | refine zL ent40 c1 ?_ | refine zG ent40 (fun h => c1) ?_ | refine zL ent40 c2 ?_ | refine zG ent40 (fun h => c2) ?_ | refine zL ent39 c3 ?_ | refine zG ent39 (fun h => c3) ?_ | refine lB ?_ | refine lBA ?_ | refine rA ?_ | refine r1 ?_ | refine zK ?_ | refine s1 ?_ | refine sA ?_ | refine pS ?_ | refine LK.gr (Gr.bslV rfl rfl rfl rfl) ?_ | refine Ask.of (Gr.bslV rfl rfl rfl rfl) ?_ | refine zC ?_ | refine zD ?_ | fail))
     rename_i A q cp
     (conv => whnf); (refine Nxt.of ((g + 1, Value.slice A q cp)) [5, 11, 43, 44, 45, 46, 47, 48, 49, 50, 51, 52, 53, 54, 55, 56, 57, 58] Qr Qr Qr ?_ ?_ Qy ?_ <;> (try dsimp only) <;> (try omega))
     rw [aftL_succ _ hg1, ← List.append_assoc, Lg, List.map_append]
     exact Qs
    ·obtain rfl : g = m := by omega
     repeat' ((conv => whnf) <;> (first | refine zM ?_ | refine zW ?_ | intro _ | exact zF | refine Br.tt ?_ | refine Br.ff ?_ | (refine Br.mk (fun h => ?_) (fun h => ?_) <;> (try simp only [sh] at h) <;> try first | (exfalso; omega) | exact absurd trivial h | (simp at h; done)) | refine zA ?_ | refine zN ?_ | refine zO ?_ | refine zP ?_ | refine zB ?_ | refine lB ?_ | refine lBA ?_ | refine rA ?_ | refine r1 ?_ | refine zK ?_ | refine s1 ?_ | refine sA ?_ | refine zC ?_ | fail))
     (conv => whnf); (refine Nxt.of ((f + 1, v)) [5, 10, 11, 38, 39, 40, 41, 42, 43, 44, 45, 46, 47, 48, 49, 50, 51, 52, 53, 54, 55, 56, 57, 58, 59] Qr Qr Qr ?_ ?_ Qy ?_ <;> (try dsimp only) <;> (try omega))
     rw [seqL_succ, ← List.append_assoc]
     exact Qs
   ·obtain rfl : f = m := by omega
    repeat' ((conv => whnf) <;> (first | refine zM ?_ | refine zW ?_ | intro _ | exact zF | refine Br.tt ?_ | refine Br.ff ?_ | (refine Br.mk (fun h => ?_) (fun h => ?_) <;> (try simp only [sh] at h) <;> try first | (exfalso; omega) | exact absurd trivial h | (simp at h; done)) | refine zA ?_ | refine zN ?_ | refine zO ?_ | refine zP ?_ | refine zB ?_ | refine lB ?_ | refine lBA ?_ | refine rA ?_ | refine r1 ?_ | refine zK ?_ | refine s1 ?_ | refine sA ?_ | refine zC ?_ | fail))
    (conv => whnf); (refine Nxt.of ((e + 1, v)) [5, 9, 10, 11, 34, 35, 36, 37, 38, 39, 40, 41, 42, 43, 44, 45, 46, 47, 48, 49, 50, 51, 52, 53, 54, 55, 56, 57, 58, 59, 60] Qr Qr Qr ?_ ?_ Qy ?_ <;> (try dsimp only) <;> (try omega))
    rw [seqL_succ, ← List.append_assoc]
    exact Qs
  ·obtain rfl : e = d := by omega
   repeat' ((conv => whnf) <;> (first | refine zM ?_ | refine zW ?_ | intro _ | exact zF | refine Br.tt ?_ | refine Br.ff ?_ | (refine Br.mk (fun h => ?_) (fun h => ?_) <;> (try simp only [sh] at h) <;> try first | (exfalso; omega) | exact absurd trivial h | (simp at h; done)) | refine zA ?_ | refine zN ?_ | refine zO ?_ | refine zP ?_ | refine zB ?_ | refine lB ?_ | refine lBA ?_ | refine rA ?_ | refine r1 ?_ | refine zK ?_ | refine s1 ?_ | refine sA ?_ | refine zC ?_ | fail))
   conv => whnf
   exact .out _ (by exact List.Sublist.refl _) ⟨_, rfl, rfl⟩
end Go.Proofs.YtjfnkmlnbaianaaGreat
namespace Go.Proofs.YtjfnkmlnbaianaaGreat
open Go.E2 Go.Wage
def negI (n i : Nat) : List Int := List.replicate i (-1) ++ List.replicate (n - i) 0
theorem negI_len {n i : Nat} (h : i ≤ n) : (negI n i).length = n := by unfold negI; simp; omega
theorem negI_set {n i : Nat} (h : i < n) : (negI n i).set i (-1) = negI n (i + 1) := by
 unfold negI
 rw [show n - i = (n - (i + 1)) + 1 by omega, List.replicate_succ, List.set_append_right _ _ (by simp), List.length_replicate, Nat.sub_self, List.set_cons_zero, List.replicate_succ', List.append_assoc]
 rfl
theorem putR_snoc (n : Nat) (w : Int) (ds : List Nat) (d : Nat) : putR n w (ds ++ [d]) = (putR n w ds).set d w := by simp [putR]
theorem putR_nil (n : Nat) (w : Int) : putR n w [] = negI n n := by simp [putR, negI]
theorem putR_isRo {p : Pl} {w : Nat} (hw : w < p.workers.length) (ds : List Nat) : isRo p (putR p.duties.length w ds) = true := by
 refine isRo_iff.2 ⟨putR_len _ _ _, ?_⟩
 have key : ∀ (ds : List Nat) (r : List Int), (∀ x ∈ r, -1 ≤ x ∧ x < p.workers.length) → ∀ x ∈ ds.foldl (fun r d => r.set d (w : Int)) r, -1 ≤ x ∧ x < p.workers.length := by
  intro ds
  induction ds with
  | nil => intro r h; exact h
  | cons d ds ih =>
   intro r h
   rw [List.foldl_cons]
   refine ih _ fun x hx => ?_
   rcases List.mem_or_eq_of_mem_set hx with hx | rfl
   ·exact h x hx
   ·omega
 refine key ds _ fun x hx => ?_
 have := List.eq_of_mem_replicate hx
 omega
set_option maxRecDepth 4000 in
set_option maxHeartbeats 8000000 in
theorem dmBad_ok (p : Pl) (hv : validP p = true) (hs : Small p) (w : Nat) (hw : w < p.workers.length) (ds : List Nat) (hd : ∀ d ∈ ds, d < p.duties.length) (hl : ds.length ≤ 1000) :
  FnA Tryz.prog 37 [I w, .sl 1 (ds.map In), .fp (pcs p) 0, .fp [.fp (ccs p) 0] 0] (B (badW p w ds)) := by
 have hsd := hs.du
 have hld : (p.duties.map duav).length = p.duties.length := by simp
 have hdl : (ds.map In).length = ds.length := by simp
 have hrl : (List.replicate p.duties.length (AV.v (.int .i64 0))).length = p.duties.length := by simp
 have hro := putR_isRo hw ds
 have c1 := oWorker_ok p (putR p.duties.length w ds) w hv hs hro hw
 refine fn_run (T := tab) Tryz.func37 rfl Tryz.ntmps37 rfl Tryz.results37 (fun _ => ?_)
 repeat' ((conv => whnf) <;> (first | refine nR (T := tab) ?_ | (refine LK.eff (Eff.mkS (T := tab) (N := p.duties.length) (z := .int .i64 0) rfl rfl rfl rfl (congrArg (fun q : Nat => some (I (q : Int))) hld) (by omega)) ?_ <;> rintro _ _ ⟨A1, B1, C1, rfl, rfl⟩) | refine zM ?_ | refine zW ?_ | intro _ | exact zF | refine Br.tt ?_ | refine Br.ff ?_ | (refine Br.mk (fun h => ?_) (fun h => ?_) <;> (try simp only [sh] at h) <;> try first | (exfalso; omega) | exact absurd trivial h | (simp at h; done)) | refine zA ?_ | refine zN ?_ | refine zO ?_ | refine zP ?_ | refine zB ?_ | refine lB ?_ | refine lBA ?_ | refine zK ?_ | refine s1 ?_ | refine sA ?_ | refine zC ?_ | fail))
 (conv => whnf); refine CK.loopK [8, 17, 18, 19, 20, 21, 22, 23] (σ := Nat) (fun i => i ≤ p.duties.length) (fun i => [(17, I i)]) (fun i => [Ro (.slice A1 B1 C1) (negI p.duties.length i)]) [] (fun i => p.duties.length - i) 0 (Nat.zero_le _) Qy (by
  have e : (negI p.duties.length 0).map I = List.replicate p.duties.length (AV.v (.int .i64 0)) := by unfold negI; rw [List.replicate_zero, List.nil_append, List.map_replicate, Nat.sub_zero]
  dsimp only [Ro]
  rw [e]
  exact Qs) ?_
 conv => whnf
 rintro i hi
 have hn0 := negI_len (n := p.duties.length) (i := i) hi
 have hn1 : ((negI p.duties.length i).map I).length = p.duties.length := by rw [List.length_map, hn0]
 by_cases hin : i < p.duties.length
 ·have hst := set_Id (negI p.duties.length i) (i : Int).toNat (-1)
  repeat' ((conv => whnf) <;> (first | refine LK.stRM (a := (i : Int).toNat) (j := 0) 0 rfl rfl rfl rfl rfl (Nat.zero_le _) (by omega) rfl rfl ?_ | refine iR (T := tab) ?_ | refine zM ?_ | refine zW ?_ | intro _ | exact zF | refine Br.tt ?_ | refine Br.ff ?_ | (refine Br.mk (fun h => ?_) (fun h => ?_) <;> (try simp only [sh] at h) <;> try first | (exfalso; omega) | exact absurd trivial h | (simp at h; done)) | refine zA ?_ | refine zN ?_ | refine zO ?_ | refine zP ?_ | refine zB ?_ | refine lB ?_ | refine lBA ?_ | refine zK ?_ | refine s1 ?_ | refine sA ?_ | refine zC ?_ | fail))
  (conv => whnf); (refine Nxt.of (i + 1) [8, 17, 18, 19, 20, 21, 22, 23] Qr Qr Qr ?_ ?_ Qy ?_ <;> (try dsimp only) <;> (try omega))
  rw [hst, Int.toNat_natCast, negI_set hin]
  exact Qs
 ·obtain rfl : i = p.duties.length := by omega
  repeat' ((conv => whnf) <;> (first | refine zM ?_ | refine zW ?_ | intro _ | exact zF | refine Br.tt ?_ | refine Br.ff ?_ | (refine Br.mk (fun h => ?_) (fun h => ?_) <;> (try simp only [sh] at h) <;> try first | (exfalso; omega) | exact absurd trivial h | (simp at h; done)) | refine zA ?_ | refine zN ?_ | refine zO ?_ | refine zP ?_ | refine zB ?_ | refine lB ?_ | refine lBA ?_ | refine zK ?_ | refine s1 ?_ | refine sA ?_ | refine zC ?_ | fail))
  (conv => whnf); refine CK.loopK [10, 26, 27, 28, 29, 30, 31, 32, 33, 34] (σ := Nat) (fun k => k ≤ ds.length) (fun k => [(26, I k)]) (fun k => [Ro (.slice A1 B1 C1) (putR p.duties.length w (ds.take k))]) [] (fun k => ds.length - k) 0 (Nat.zero_le _) Qy (by
   rw [List.take_zero, putR_nil]
   exact Qs) ?_
  conv => whnf
  rintro k hk
  have hp0 := putR_len p.duties.length w (ds.take k)
  have hp1 : ((putR p.duties.length w (ds.take k)).map I).length = p.duties.length := by rw [List.length_map, hp0]
  by_cases hkl : k < ds.length
  ·have hdk := hd (ds.getD k default) (by rw [getD_at' hkl]; exact List.getElem_mem _)
   have hst := set_Id (putR p.duties.length w (ds.take k)) ((ds.getD k default : Nat) : Int).toNat (w : Int)
   repeat' ((conv => whnf) <;> (first | refine LK.stRM (a := ((ds.getD k default : Nat) : Int).toNat) (j := 0) 0 rfl rfl rfl rfl rfl (Nat.zero_le _) (by omega) rfl rfl ?_ | refine iR (T := tab) ?_ | refine zM ?_ | refine zW ?_ | intro _ | exact zF | refine Br.tt ?_ | refine Br.ff ?_ | (refine Br.mk (fun h => ?_) (fun h => ?_) <;> (try simp only [sh] at h) <;> try first | (exfalso; omega) | exact absurd trivial h | (simp at h; done)) | refine zA ?_ | refine zN ?_ | refine zO ?_ | refine zP ?_ | refine zB ?_ | refine lB ?_ | refine lBA ?_ | refine zK ?_ | refine s1 ?_ | refine sA ?_ | refine zC ?_ | fail))
   (conv => whnf); (refine Nxt.of (k + 1) [10, 26, 27, 28, 29, 30, 31, 32, 33, 34] Qr Qr Qr ?_ ?_ Qy ?_ <;> (try dsimp only) <;> (try omega))
   rw [hst, Int.toNat_natCast, take_snocD hkl, putR_snoc]
   exact Qs
  ·obtain rfl : k = ds.length := by omega
   rw [List.take_length]
   repeat' ((conv => whnf) <;> (first | (refine LK.frzR 0 rfl ?_ <;> refine LK.see 36 rfl (Sb.row 0 rfl) ?_ <;> refine LK.call ent38 c1 rfl rfl Ql (fun _ _ hcall => ?_) <;> obtain ⟨rfl, l, rfl, hm, hll, _⟩ := hcall) | refine zM ?_ | refine zW ?_ | intro _ | exact zF | refine Br.tt ?_ | refine Br.ff ?_ | (refine Br.mk (fun h => ?_) (fun h => ?_) <;> (try simp only [sh] at h) <;> try first | (exfalso; omega) | exact absurd trivial h | (simp at h; done)) | refine zA ?_ | refine zN ?_ | refine zO ?_ | refine zP ?_ | refine zB ?_ | refine lB ?_ | refine lBA ?_ | refine zK ?_ | refine s1 ?_ | refine sA ?_ | refine zC ?_ | fail))
   have hlv : (l.map viav).length = l.length := by simp
   repeat' ((conv => whnf) <;> (first | refine zM ?_ | refine zW ?_ | intro _ | exact zF | refine Br.tt ?_ | refine Br.ff ?_ | (refine Br.mk (fun h => ?_) (fun h => ?_) <;> (try simp only [sh] at h) <;> try first | (exfalso; omega) | exact absurd trivial h | (simp at h; done)) | refine zA ?_ | refine zN ?_ | refine zO ?_ | refine zP ?_ | refine zB ?_ | refine lB ?_ | refine lBA ?_ | refine zK ?_ | refine s1 ?_ | refine sA ?_ | refine zC ?_ | fail))
   conv => whnf
   refine .out _ (by exact List.nil_sublist _) ⟨congrArg B ?_, rfl⟩
   unfold badW
   rw [Bool.eq_iff_iff, decide_eq_true_eq, List.length_map, Bool.not_eq_true', List.isEmpty_eq_false_iff]
   constructor
   ·intro h e
    rw [e] at hm
    have : l = [] := List.eq_nil_iff_forall_not_mem.2 fun v hv => by cases (hm v).1 hv
    rw [this] at h
    simp at h
   ·intro h
    obtain ⟨v, hv⟩ := List.exists_mem_of_ne_nil _ h
    have := List.length_pos_of_mem ((hm v).2 hv)
    omega
end Go.Proofs.YtjfnkmlnbaianaaGreat
namespace Go.E2
theorem SbE.each {L : List Ent} {α : Type} {f g : α → AV} : ∀ {l : List α}, (∀ x ∈ l, SbL L (f x).cells (g x).cells ∧ (f x).cells.length = (g x).cells.length) → SbE L (l.map f) (l.map g)
 | [], _ => .nil
 | x :: l, h => .cons (h x (by simp)).1 (h x (by simp)).2 (SbE.each fun y hy => h y (by simp [hy]))
theorem CK.frzTail {P : Program} {T : Tr} {c : Ctx} {m : Nat} {ro : Option Nat} {x : Code} {K : KT} {ds : List Deferred} {F : Fr} {A : List Ent} {RS : List (Value × List AV)} {t U : TypeId} {size k : Nat} {av : Value} {xs xs' : List AV} (j : Nat) (hA : A[j]? = some (.row av U k 0 false xs)) (hs : SbE (A ++ RS.map (frowE t size)) xs xs')
  (kk : CK P T c m ro x K ds F (A.set j (.row av U k 0 false xs'))) : CK P T c m ro x K ds F (A ++ RS.map (rowE t size)) :=
 ⟨fun Q hQ => ⟨fun H w a hst hF d => by
  obtain ⟨H1, l1, h1⟩ := hst.frzRows
  have hj : j < A.length := (List.getElem?_eq_some_iff.1 hA).1
  have h2 := h1.seeRow (i := j) (by rw [List.getElem?_append_left hj]; exact hA) hs
  rw [List.set_append_left _ _ hj] at h2
  exact (kk.out Q hQ).out H1 w a (h2.sub (List.sublist_append_left _ _)) (hF.mono l1) d⟩⟩
end Go.E2
namespace Go.Proofs.YtjfnkmlnbaianaaGreat
open Go.E2 Go.Wage
def aloB (p : Pl) (u : Nat) : List Bool := (List.range p.duties.length).map fun d => badW p u [d]
def aloF (p : Pl) (u d : Nat) : List Bool := (List.range d).map (fun d => badW p u [d]) ++ List.replicate (p.duties.length - d) false
theorem aloF_len {p : Pl} {u d : Nat} (h : d ≤ p.duties.length) : (aloF p u d).length = p.duties.length := by unfold aloF; simp; omega
theorem aloF_end (p : Pl) (u : Nat) : aloF p u p.duties.length = aloB p u := by simp [aloF, aloB]
theorem aloF_set {p : Pl} {u d : Nat} (h : d < p.duties.length) : (aloF p u d).set d (badW p u [d]) = aloF p u (d + 1) := by
 unfold aloF
 rw [show p.duties.length - d = (p.duties.length - (d + 1)) + 1 by omega, List.replicate_succ, List.set_append_right _ _ (by simp), List.length_map, List.length_range, Nat.sub_self, List.set_cons_zero, List.range_succ, List.map_append, List.append_assoc]
 rfl
theorem aloF_no {p : Pl} {u d : Nat} (h : d < p.duties.length) (hb : badW p u [d] = false) : aloF p u d = aloF p u (d + 1) := by
 rw [← aloF_set h, hb]
 unfold aloF
 rw [show p.duties.length - d = (p.duties.length - (d + 1)) + 1 by omega, List.replicate_succ, List.set_append_right _ _ (by simp), List.length_map, List.length_range, Nat.sub_self, List.set_cons_zero]
def aloR (m : Nat) (RS : List (Value × List AV)) : List AV := RS.reverse.map (fun e => AV.v e.1) ++ List.replicate (m - RS.length) (.v (.slice none 0 0))
theorem aloR_len {m : Nat} {RS : List (Value × List AV)} (h : RS.length ≤ m) : (aloR m RS).length = m := by unfold aloR; simp; omega
theorem aloR_set {m : Nat} {RS : List (Value × List AV)} (h : RS.length < m) (v : Value) (bs : List AV) : (aloR m RS).set RS.length (.v v) = aloR m ((v, bs) :: RS) := by
 unfold aloR
 rw [show m - RS.length = (m - (RS.length + 1)) + 1 by omega, List.replicate_succ, List.set_append_right _ _ (by simp), List.length_map, List.length_reverse, Nat.sub_self, List.set_cons_zero, List.reverse_cons, List.map_append, List.append_assoc]
 rfl
theorem aloR_get {m : Nat} {RS : List (Value × List AV)} (h : RS.length < m) : (aloR m RS)[RS.length]? = some (.v (.slice none 0 0)) := by
 unfold aloR
 rw [List.getElem?_append_right (by simp), List.length_map, List.length_reverse, Nat.sub_self, List.getElem?_replicate, if_pos (by omega)]
theorem exP_len {n m : Nat} (hn : n ≤ 100) (hm : m ≤ 100) : (exP n m).length ≤ 1000100 := by
 unfold exP
 rw [List.length_append]
 have h1 := ex1_len n m
 have h2 := ex4_len n m
 have h3 : n * (m * m) ≤ 100 * (100 * 100) := Nat.mul_le_mul hn (Nat.mul_le_mul hm hm)
 omega
theorem aloS_len (p : Pl) (w d : Nat) : (aloS p w d).length ≤ 1 := by unfold aloS; split <;> simp
theorem twoS_len (p : Pl) (w d e : Nat) : (twoS p w d e).length ≤ 1 := by unfold twoS; split <;> simp
theorem alo1_len (p : Pl) (w d : Nat) : (seqL (aloS p w) d).length ≤ d := by
 have := seqL_len (f := aloS p w) (n := d) (k := 1) fun i _ => aloS_len p w i
 omega
theorem alo2_len (p : Pl) (n w : Nat) : (seqL (fun w => seqL (aloS p w) n) w).length ≤ w * n := seqL_len fun i _ => alo1_len p i n
theorem two1_len (p : Pl) (w d e : Nat) : (aftL (twoS p w d) d e).length ≤ e := aftL_len fun i => twoS_len p w d i
theorem two2_len (p : Pl) (n w d : Nat) : (seqL (fun d => aftL (twoS p w d) d n) d).length ≤ d * n := seqL_len fun i _ => two1_len p w i n
theorem two3_len (p : Pl) (n w : Nat) : (seqL (fun w => seqL (fun d => aftL (twoS p w d) d n) n) w).length ≤ w * (n * n) := seqL_len fun i _ => two2_len p n i n
theorem aloB_get {p : Pl} {u d : Nat} (h : d < p.duties.length) : (aloB p u).getD d default = badW p u [d] := by
 unfold aloB
 rw [getD_at' (by simpa using h)]
 simp
theorem dmEx_map (p : Pl) (hn : p.duties.length ≤ 100) (hm : p.workers.length ≤ 100) : FnE Tryz.prog 36 [I (p.duties.map duav).length, I (p.workers.map wkav).length] fun r E => ∃ v, r = .v v ∧ E = [Lg v (exP p.duties.length p.workers.length)] := by
 rw [List.length_map, List.length_map]
 exact dmEx_raw _ _ hn hm
set_option maxRecDepth 4000 in
set_option maxHeartbeats 8000000 in
theorem dmBase_raw (p : Pl) (hs : Small p) (hv : validP p = true) (hn : p.duties.length ≤ 100) (hm : p.workers.length ≤ 100) : FnE Tryz.prog 16 [.agg (pcs p)] fun r E => ∃ v, r = .v v ∧ E = [Lg v (baseP p)] := by
 have hsd := hs.du
 have hsw := hs.wk
 have hld : (p.duties.map duav).length = p.duties.length := by simp
 have hlw : (p.workers.map wkav).length = p.workers.length := by simp
 have c1 := oPrep_ok p hs hv
 have c2 := dmEx_map p hn hm
 refine fn_run (T := tab) Tryz.func16 rfl Tryz.ntmps16 rfl Tryz.results16 (fun _ => ?_)
 repeat' ((conv => whnf) <;> (first | (refine LK.eff (Eff.mkS (T := tab) (N := p.workers.length) (z := .slice none 0 0) rfl rfl rfl rfl (congrArg (fun q : Nat => some (I (q : Int))) hlw) (by omega)) ?_ <;> rintro _ _ ⟨A1, B1, C1, rfl, rfl⟩) | refine zM ?_ | refine zW ?_ | intro _ | exact zF | refine Br.tt ?_ | refine Br.ff ?_ | (refine Br.mk (fun h => ?_) (fun h => ?_) <;> (try simp only [sh] at h) <;> try first | (exfalso; omega) | exact absurd trivial h | (simp at h; done)) | refine zA ?_ | refine zN ?_ | refine zO ?_ | refine zP ?_ | refine zB ?_ | refine zL ent35 c1 ?_ | refine zG ent35 (fun h => c1) ?_ | (refine LK.call ent36 (c2) rfl rfl Ql (fun _ _ hcall => ?_) <;> obtain ⟨v0, rfl, rfl⟩ := hcall) | refine lB ?_ | refine lBA ?_ | refine zK ?_ | refine s1 ?_ | refine sA ?_ | refine zC ?_ | fail))
 rename_i b1 b3
 conv => whnf
 refine CK.frzB 2 rfl ?_
 refine CK.frzB 3 rfl ?_
 refine CK.see 6 rfl (Sb.fn (.cons (Sb.ptr 3 rfl) (.cons (Sb.ptr 2 rfl) .nil))) ?_
 (conv => whnf); refine CK.loopK [5, 8, 9, 35, 36, 37, 38, 39, 40, 41, 42, 43, 44, 45, 46, 47, 48, 49, 50, 51, 52, 53, 54, 55, 56, 57, 58, 59, 60, 61, 62, 63, 64, 65, 66, 67, 68, 69, 70, 71] (σ := Nat × Value × List (Value × List AV)) (fun s => s.1 ≤ p.workers.length ∧ s.2.2.length = s.1 ∧ s.2.2.reverse.map (·.2) = (List.range s.1).map fun u => (aloB p u).map B) (fun ⟨w, v, _⟩ => [(35, I w), (5, .v v)]) (fun ⟨w, v, RS⟩ => [.row (.slice A1 B1 C1) 82 1 0 false (aloR p.workers.length RS), Lg v (exP p.duties.length p.workers.length ++ seqL (fun w => seqL (aloS p w) p.duties.length) w), .blk b3 91 true [.fp (ccs p) 0], .blk b1 32 true (pcs p)] ++ RS.map (rowE 4 1)) [] (fun s => p.workers.length - s.1) (0, v0, []) ⟨Nat.zero_le _, rfl, rfl⟩ Qy (by dsimp only; simp only [seqL_zero, List.append_nil]; exact List.Sublist.refl _) ?_
 conv => whnf
 rintro ⟨w, v, RS⟩ ⟨i1, i2, i3⟩
 simp only at i1 i2 i3
 rw [List.append_nil]
 have har := aloR_len (m := p.workers.length) (RS := RS) (by omega)
 by_cases hw : w < p.workers.length
 ·have hget : (aloR p.workers.length RS)[(w : Int).toNat]? = some (.v (.slice none 0 0)) := by rw [Int.toNat_natCast, ← i2]; exact aloR_get (by omega)
  repeat' ((conv => whnf) <;> (first | refine LK.stR (T := tab) (a := (w : Int).toNat) (j := 0) 1 rfl rfl rfl rfl rfl (Nat.zero_le _) hget rfl rfl ?_ | (refine LK.eff (Eff.mkS (T := tab) (N := p.duties.length) (z := .bool false) rfl rfl rfl rfl (congrArg (fun q : Nat => some (I (q : Int))) hld) (by omega)) ?_ <;> rintro _ _ ⟨A2, B2, C2, rfl, rfl⟩) | refine iR (T := tab) ?_ | refine zM ?_ | refine zW ?_ | intro _ | exact zF | refine Br.tt ?_ | refine Br.ff ?_ | (refine Br.mk (fun h => ?_) (fun h => ?_) <;> (try simp only [sh] at h) <;> try first | (exfalso; omega) | exact absurd trivial h | (simp at h; done)) | refine zA ?_ | refine zN ?_ | refine zO ?_ | refine zP ?_ | refine zB ?_ | refine lB ?_ | refine lBA ?_ | refine zK ?_ | refine s1 ?_ | refine sA ?_ | refine zC ?_ | fail))
  have hget2 : ((aloR p.workers.length RS).set w (.v (.slice A2 B2 C2)))[(w : Int).toNat]? = some (.v (.slice A2 B2 C2)) := by rw [Int.toNat_natCast, List.getElem?_set, if_pos rfl, if_pos (by omega)]
  have har2 : ((aloR p.workers.length RS).set w (.v (.slice A2 B2 C2))).length = p.workers.length := by rw [List.length_set, har]
  (conv => whnf); refine CK.loopK [5, 9, 48, 49, 50, 51, 52, 53, 54, 55, 56, 57, 58, 59, 60, 61, 62, 63, 64, 65, 66, 67, 68, 69, 70] (σ := Nat × Value) (fun s => s.1 ≤ p.duties.length) (fun ⟨d, v⟩ => [(48, I d), (5, .v v)]) (fun ⟨d, v⟩ => [Rs (.slice A2 B2 C2) (aloF p w d), .row (.slice A1 B1 C1) 82 1 0 false ((aloR p.workers.length RS).set w (.v (.slice A2 B2 C2))), Lg v (exP p.duties.length p.workers.length ++ seqL (fun w => seqL (aloS p w) p.duties.length) w ++ seqL (aloS p w) d), .blk b3 91 true [.fp (ccs p) 0], .blk b1 32 true (pcs p)]) (RS.map (rowE 4 1)) (fun s => p.duties.length - s.1) (0, v) (Nat.zero_le _) Qy (by
   have e : (aloF p w 0).map B = List.replicate p.duties.length (AV.v (.bool false)) := by unfold aloF; rw [List.range_zero, List.map_nil, List.nil_append, List.map_replicate, Nat.sub_zero]
   dsimp only [Rs]
   rw [e, seqL_zero, List.append_nil, Int.toNat_natCast]
   exact Qs) ?_
  conv => whnf
  rintro ⟨d, v⟩ hd
  simp only at hd
  by_cases hdn : d < p.duties.length
  ·have haf := aloF_len (p := p) (u := w) (d := d) hd
   have haf2 : ((aloF p w d).map B).length = p.duties.length := by rw [List.length_map, haf]
   have c3 := dmBad_ok p hv hs w hw [d] (fun x hx => by rw [List.mem_singleton] at hx; omega) (by simp)
   have c4 := dmNot_ok (d : Int) (w : Int)
   have c5 := dmDen_ok 3 [⟨(d : Int), (w : Int), false⟩] (by simp)
   have hst := set_Bt (aloF p w d) (d : Int).toNat
   have h4 : ((exP p.duties.length p.workers.length ++ seqL (fun w => seqL (aloS p w) p.duties.length) w ++ seqL (aloS p w) d).map sgav).length ≤ 3000000 := by
    have h1 := exP_len hn hm
    have h2 := alo2_len p p.duties.length w
    have h3 := alo1_len p w d
    have h5 : w * p.duties.length ≤ 100 * 100 := Nat.mul_le_mul (by omega) hn
    rw [List.length_map, List.length_append, List.length_append]
    omega
   repeat' ((conv => whnf) <;> (first | refine LK.stRM (f := B) (a := (d : Int).toNat) (j := 0) 0 rfl rfl rfl rfl rfl (Nat.zero_le _) (by omega) rfl rfl ?_ | refine lR0 (T := tab) (i := 1) (hp := hget2) ?_ | refine iR (T := tab) ?_ | (refine LK.callC (as2 := [I w, .sl 1 [I d]]) ent37 rfl (Sb.refl _) rfl Ql (by exact c3) ?_) | refine zM ?_ | refine zW ?_ | intro _ | exact zF | refine Br.tt ?_ | refine Br.ff ?_ | (refine Br.mk (fun h => ?_) (fun h => ?_) <;> (try simp only [sh] at h) <;> try first | (exfalso; omega) | exact absurd trivial h | (simp at h; done)) | refine zA ?_ | refine zN ?_ | refine zO ?_ | refine zP ?_ | refine zB ?_ | refine zL ent40 c4 ?_ | refine zG ent40 (fun h => c4) ?_ | refine zL ent39 c5 ?_ | refine zG ent39 (fun h => c5) ?_ | refine lB ?_ | refine lBA ?_ | refine zK ?_ | refine s1 ?_ | refine sA ?_ | refine pS ?_ | refine LK.gr (Gr.bslV rfl rfl rfl rfl) ?_ | refine Ask.of (Gr.bslV rfl rfl rfl rfl) ?_ | refine zC ?_ | refine zD ?_ | fail))
   ·rename_i A3 q3 cp3
    rw [hst, Int.toNat_natCast]
    (conv => whnf); (refine Nxt.of ((d + 1, Value.slice A3 q3 cp3)) [5, 9, 48, 49, 50, 51, 52, 53, 54, 55, 56, 57, 58, 59, 60, 61, 62, 63, 64, 65, 66, 67, 68, 69, 70] Qr Qr Qr ?_ ?_ Qy ?_ <;> (try dsimp only) <;> (try omega))
    rw [← aloF_set hdn, h, seqL_succ, ← List.append_assoc, aloS, if_pos h, Lg, List.map_append]
    exact Qs
   ·(conv => whnf); (refine Nxt.of ((d + 1, v)) [5, 9, 48, 49, 50, 51, 52, 53, 54, 55, 56, 57, 58, 59, 60, 61, 62, 63, 64, 65, 66, 67, 68, 69, 70] Qr Qr Qr ?_ ?_ Qy ?_ <;> (try dsimp only) <;> (try omega))
    rw [← aloF_no hdn h, seqL_succ, aloS, h]
    simp only [Bool.false_eq_true, if_false, List.append_nil]
    exact Qs
  ·obtain rfl : d = p.duties.length := by omega
   repeat' ((conv => whnf) <;> (first | refine zM ?_ | refine zW ?_ | intro _ | exact zF | refine Br.tt ?_ | refine Br.ff ?_ | (refine Br.mk (fun h => ?_) (fun h => ?_) <;> (try simp only [sh] at h) <;> try first | (exfalso; omega) | exact absurd trivial h | (simp at h; done)) | refine zA ?_ | refine zN ?_ | refine zO ?_ | refine zP ?_ | refine zB ?_ | refine lB ?_ | refine lBA ?_ | refine zK ?_ | refine s1 ?_ | refine sA ?_ | refine zC ?_ | fail))
   conv => whnf
   refine Nxt.perm (List.perm_middle (a := Rs (.slice A2 B2 C2) (aloF p w p.duties.length)) (l₁ := [.row (.slice A1 B1 C1) 82 1 0 false ((aloR p.workers.length RS).set w (.v (.slice A2 B2 C2))), Lg v (exP p.duties.length p.workers.length ++ seqL (fun w => seqL (aloS p w) p.duties.length) w ++ seqL (aloS p w) p.duties.length), .blk b3 91 true [.fp (ccs p) 0], .blk b1 32 true (pcs p)]) (l₂ := RS.map (rowE 4 1))).symm ?_
   (conv => whnf); (refine Nxt.of ((w + 1, v, (Value.slice A2 B2 C2, (aloB p w).map B) :: RS)) [5, 8, 9, 35, 36, 37, 38, 39, 40, 41, 42, 43, 44, 45, 46, 47, 48, 49, 50, 51, 52, 53, 54, 55, 56, 57, 58, 59, 60, 61, 62, 63, 64, 65, 66, 67, 68, 69, 70, 71] Qr Qr Qr ?_ ?_ Qy ?_ <;> (try dsimp only) <;> (try omega))
   ·refine ⟨hw, by rw [List.length_cons, i2], ?_⟩
    rw [List.reverse_cons, List.map_append, i3, List.range_succ, List.map_append]
    rfl
   ·rw [List.append_nil, seqL_succ, ← List.append_assoc, ← i2, ← aloR_set (by omega) _ ((aloB p RS.length).map B), ← aloF_end]
    exact List.Sublist.refl _
 ·obtain rfl : w = p.workers.length := by omega
  repeat' ((conv => whnf) <;> (first | refine zM ?_ | refine zW ?_ | intro _ | exact zF | refine Br.tt ?_ | refine Br.ff ?_ | (refine Br.mk (fun h => ?_) (fun h => ?_) <;> (try simp only [sh] at h) <;> try first | (exfalso; omega) | exact absurd trivial h | (simp at h; done)) | refine zA ?_ | refine zN ?_ | refine zO ?_ | refine zP ?_ | refine zB ?_ | refine lB ?_ | refine lBA ?_ | refine zK ?_ | refine s1 ?_ | refine sA ?_ | refine zC ?_ | fail))
  have e0 : aloR p.workers.length RS = RS.reverse.map fun e => AV.v e.1 := by unfold aloR; rw [i2, Nat.sub_self, List.replicate_zero, List.append_nil]
  have e1 : (RS.reverse.map fun e => AV.sl 1 e.2) = ((List.range p.workers.length).map (aloB p)).map fun bs => AV.sl 1 (bs.map B) := by
   have := congrArg (List.map (AV.sl 1)) i3
   rw [List.map_map, List.map_map] at this
   rw [List.map_map]
   exact this
  conv => whnf
  refine CK.frzTail (t := 4) (size := 1) (RS := RS) (A := [.row (.slice A1 B1 C1) 82 1 0 false (aloR p.workers.length RS), Lg v (exP p.duties.length p.workers.length ++ seqL (fun w => seqL (aloS p w) p.duties.length) p.workers.length), .blk b3 91 true [.fp (ccs p) 0], .blk b1 32 true (pcs p)]) (xs' := RS.reverse.map fun e => AV.sl 1 e.2) 0 rfl (by
   rw [e0]
   refine SbE.each fun e he => ⟨?_, rfl⟩
   obtain ⟨q, hq, e3⟩ := List.mem_iff_getElem.1 (List.mem_reverse.1 he)
   refine .cons (Sb.row (t := 4) (m := e.2.length) (4 + q) ?_) .nil
   rw [List.getElem?_append_right (by simp)]
   simp only [List.length_cons, List.length_nil]
   rw [show 4 + q - (0 + 1 + 1 + 1 + 1) = q by omega, List.getElem?_map, List.getElem?_eq_getElem hq, e3]
   rfl) ?_
  rw [e1]
  generalize hAL : (List.range p.workers.length).map (aloB p) = AL
  have hal : AL.length = p.workers.length := by rw [← hAL]; simp
  have halm : (AL.map fun bs => AV.sl 1 (bs.map B)).length = p.workers.length := by rw [List.length_map, hal]
  have hag : ∀ w, w < p.workers.length → AL.getD w default = aloB p w := fun w hw => by
   rw [← hAL, getD_at' (by simpa using hw)]
   simp
  (conv => whnf); refine CK.loopK [5, 10, 11, 12, 75, 76, 77, 78, 79, 80, 81, 82, 83, 84, 85, 86, 87, 88, 89, 90, 91, 92, 93, 94, 95, 96, 97, 98, 99, 100, 101, 102, 103, 104, 105, 106, 107, 108, 109, 110, 111, 112, 113, 114, 115, 116, 117, 118, 119, 120, 121, 122, 123, 124, 125, 126, 127, 128, 129, 130, 131] (σ := Nat × Value) (fun s => s.1 ≤ p.workers.length) (fun ⟨w, v⟩ => [(75, I w), (5, .v v)]) (fun ⟨w, v⟩ => [.row (.slice A1 B1 C1) 82 1 0 false (AL.map fun bs => .sl 1 (bs.map B)), Lg v (exP p.duties.length p.workers.length ++ seqL (fun w => seqL (aloS p w) p.duties.length) p.workers.length ++ seqL (fun w => seqL (fun d => aftL (twoS p w d) d p.duties.length) p.duties.length) w), .blk b3 91 true [.fp (ccs p) 0], .blk b1 32 true (pcs p)]) [] (fun s => p.workers.length - s.1) (0, v) (Nat.zero_le _) Qy (by dsimp only; simp only [seqL_zero, List.append_nil]; exact List.Sublist.refl _) ?_
  conv => whnf
  rintro ⟨w, v⟩ hw2
  simp only at hw2
  by_cases hwm : w < p.workers.length
  ·have hgw := hag w hwm
   repeat' ((conv => whnf) <;> (first | refine zM ?_ | refine zW ?_ | intro _ | exact zF | refine Br.tt ?_ | refine Br.ff ?_ | (refine Br.mk (fun h => ?_) (fun h => ?_) <;> (try simp only [sh] at h) <;> try first | (exfalso; omega) | exact absurd trivial h | (simp at h; done)) | refine zA ?_ | refine zN ?_ | refine zO ?_ | refine zP ?_ | refine zB ?_ | refine lB ?_ | refine lBA ?_ | refine zK ?_ | refine s1 ?_ | refine sA ?_ | refine zC ?_ | fail))
   (conv => whnf); refine CK.loopK [5, 11, 12, 81, 82, 83, 84, 85, 86, 87, 88, 89, 90, 91, 92, 93, 94, 95, 96, 97, 98, 99, 100, 101, 102, 103, 104, 105, 106, 107, 108, 109, 110, 111, 112, 113, 114, 115, 116, 117, 118, 119, 120, 121, 122, 123, 124, 125, 126, 127, 128, 129, 130] (σ := Nat × Value) (fun s => s.1 ≤ p.duties.length) (fun ⟨d, v⟩ => [(81, I d), (5, .v v)]) (fun ⟨d, v⟩ => [.row (.slice A1 B1 C1) 82 1 0 false (AL.map fun bs => .sl 1 (bs.map B)), Lg v (exP p.duties.length p.workers.length ++ seqL (fun w => seqL (aloS p w) p.duties.length) p.workers.length ++ seqL (fun w => seqL (fun d => aftL (twoS p w d) d p.duties.length) p.duties.length) w ++ seqL (fun d => aftL (twoS p w d) d p.duties.length) d), .blk b3 91 true [.fp (ccs p) 0], .blk b1 32 true (pcs p)]) [] (fun s => p.duties.length - s.1) (0, v) (Nat.zero_le _) Qy (by dsimp only; simp only [seqL_zero, List.append_nil]; exact List.Sublist.refl _) ?_
   conv => whnf
   rintro ⟨d, v⟩ hd
   simp only at hd
   by_cases hdn : d < p.duties.length
   ·repeat' ((conv => whnf) <;> (first | refine zM ?_ | refine zW ?_ | intro _ | exact zF | refine Br.tt ?_ | refine Br.ff ?_ | (refine Br.mk (fun h => ?_) (fun h => ?_) <;> (try simp only [sh] at h) <;> try first | (exfalso; omega) | exact absurd trivial h | (simp at h; done)) | refine zA ?_ | refine zN ?_ | refine zO ?_ | refine zP ?_ | refine zB ?_ | refine lB ?_ | refine lBA ?_ | refine zK ?_ | refine s1 ?_ | refine sA ?_ | refine zC ?_ | fail))
    (conv => whnf); refine CK.loopK [5, 12, 86, 87, 88, 89, 90, 91, 92, 93, 94, 95, 96, 97, 98, 99, 100, 101, 102, 103, 104, 105, 106, 107, 108, 109, 110, 111, 112, 113, 114, 115, 116, 117, 118, 119, 120, 121, 122, 123, 124, 125, 126, 127, 128, 129] (σ := Nat × Value) (fun s => d + 1 ≤ s.1 ∧ s.1 ≤ p.duties.length) (fun ⟨e, v⟩ => [(12, I e), (5, .v v)]) (fun ⟨e, v⟩ => [.row (.slice A1 B1 C1) 82 1 0 false (AL.map fun bs => .sl 1 (bs.map B)), Lg v (exP p.duties.length p.workers.length ++ seqL (fun w => seqL (aloS p w) p.duties.length) p.workers.length ++ seqL (fun w => seqL (fun d => aftL (twoS p w d) d p.duties.length) p.duties.length) w ++ seqL (fun d => aftL (twoS p w d) d p.duties.length) d ++ aftL (twoS p w d) d e), .blk b3 91 true [.fp (ccs p) 0], .blk b1 32 true (pcs p)]) [] (fun s => p.duties.length - s.1) (d + 1, v) ⟨Nat.le_refl _, hdn⟩ Qy (by dsimp only; simp only [aftL_zero, List.append_nil]; exact List.Sublist.refl _) ?_
    conv => whnf
    rintro ⟨e, v⟩ ⟨he1, he2⟩
    simp only at he1 he2
    by_cases hen : e < p.duties.length
    ·have hgw2 : AL.getD (w : Int).toNat default = aloB p w := by rw [Int.toNat_natCast]; exact hgw
     have hl5 : ((AL.getD (w : Int).toNat default).map B).length = p.duties.length := by rw [hgw2]; simp [aloB]
     have hl6 : (AL.getD (w : Int).toNat default).length = p.duties.length := by rw [hgw2]; simp [aloB]
     have h4 : ((exP p.duties.length p.workers.length ++ seqL (fun w => seqL (aloS p w) p.duties.length) p.workers.length ++ seqL (fun w => seqL (fun d => aftL (twoS p w d) d p.duties.length) p.duties.length) w ++ seqL (fun d => aftL (twoS p w d) d p.duties.length) d ++ aftL (twoS p w d) d e).map sgav).length ≤ 4000000 := by
      have h1 := exP_len hn hm
      have h2 := alo2_len p p.duties.length p.workers.length
      have h3 := two3_len p p.duties.length w
      have h5 := two2_len p p.duties.length w d
      have h6 := two1_len p w d e
      have h7 : p.workers.length * p.duties.length ≤ 100 * 100 := Nat.mul_le_mul hm hn
      have h8 : w * (p.duties.length * p.duties.length) ≤ 100 * (100 * 100) := Nat.mul_le_mul (by omega) (Nat.mul_le_mul hn hn)
      have h9 : d * p.duties.length ≤ 100 * 100 := Nat.mul_le_mul (by omega) hn
      rw [List.length_map, List.length_append, List.length_append, List.length_append, List.length_append]
      omega
     have c3 := dmBad_ok p hv hs w hwm [d, e] (fun x hx => by simp only [List.mem_cons, List.not_mem_nil, or_false] at hx; omega) (by simp)
     have c4 := dmNot_ok (d : Int) (w : Int)
     have c6 := dmNot_ok (e : Int) (w : Int)
     have c5 := dmDen_ok 3 [⟨(d : Int), (w : Int), false⟩, ⟨(e : Int), (w : Int), false⟩] (by simp)
     repeat' ((conv => whnf) <;> (first | refine iR (T := tab) ?_ | refine Ask.of (Gr.callC («as» := [I w, .sl 1 [I d, I e]]) ent37 rfl (Sb.refl _) rfl Ql (by exact c3)) ?_ | refine zM ?_ | refine zW ?_ | intro _ | exact zF | refine Br.tt ?_ | refine Br.ff ?_ | (refine Br.mk (fun h => ?_) (fun h => ?_) <;> (try simp only [sh] at h) <;> try first | (exfalso; omega) | exact absurd trivial h | (simp at h; done)) | refine zA ?_ | refine zN ?_ | refine zO ?_ | refine zP ?_ | refine zB ?_ | refine zL ent40 c4 ?_ | refine zG ent40 (fun h => c4) ?_ | refine zL ent40 c6 ?_ | refine zG ent40 (fun h => c6) ?_ | refine zL ent39 c5 ?_ | refine zG ent39 (fun h => c5) ?_ | refine lB ?_ | refine lBA ?_ | refine lM ?_ | refine lM0 ?_ | refine lMA ?_ | refine sM ?_ | refine zK ?_ | refine s1 ?_ | refine sA ?_ | refine pS ?_ | refine LK.gr (Gr.bslV rfl rfl rfl rfl) ?_ | refine Ask.of (Gr.bslV rfl rfl rfl rfl) ?_ | refine zC ?_ | refine zD ?_ | exact True.intro | fail))
     ·rename_i A3 q3 cp3
      rw [hgw, aloB_get hdn, aloB_get hen] at h
      have hc : (!badW p w [d] && !badW p w [e] && badW p w [d, e]) = true := by rw [h.1.1, h.1.2, h.2]; rfl
      (conv => whnf); (refine Nxt.of ((e + 1, Value.slice A3 q3 cp3)) [5, 12, 86, 87, 88, 89, 90, 91, 92, 93, 94, 95, 96, 97, 98, 99, 100, 101, 102, 103, 104, 105, 106, 107, 108, 109, 110, 111, 112, 113, 114, 115, 116, 117, 118, 119, 120, 121, 122, 123, 124, 125, 126, 127, 128, 129] Qr Qr Qr ?_ ?_ Qy ?_ <;> (try dsimp only) <;> (try omega))
      rw [aftL_succ _ he1, ← List.append_assoc, twoS, if_pos hc, Lg, List.map_append]
      exact Qs
     ·rw [hgw, aloB_get hdn, aloB_get hen] at h
      have hc : ¬ (!badW p w [d] && !badW p w [e] && badW p w [d, e]) = true := by
       rcases h with (h | h) | h <;> rw [h] <;> simp
      (conv => whnf); (refine Nxt.of ((e + 1, v)) [5, 12, 86, 87, 88, 89, 90, 91, 92, 93, 94, 95, 96, 97, 98, 99, 100, 101, 102, 103, 104, 105, 106, 107, 108, 109, 110, 111, 112, 113, 114, 115, 116, 117, 118, 119, 120, 121, 122, 123, 124, 125, 126, 127, 128, 129] Qr Qr Qr ?_ ?_ Qy ?_ <;> (try dsimp only) <;> (try omega))
      rw [aftL_succ _ he1, twoS, if_neg hc]
      simp only [List.append_nil]
      exact Qs
    ·obtain rfl : e = p.duties.length := by omega
     repeat' ((conv => whnf) <;> (first | refine zM ?_ | refine zW ?_ | intro _ | exact zF | refine Br.tt ?_ | refine Br.ff ?_ | (refine Br.mk (fun h => ?_) (fun h => ?_) <;> (try simp only [sh] at h) <;> try first | (exfalso; omega) | exact absurd trivial h | (simp at h; done)) | refine zA ?_ | refine zN ?_ | refine zO ?_ | refine zP ?_ | refine zB ?_ | refine lB ?_ | refine lBA ?_ | refine zK ?_ | refine s1 ?_ | refine sA ?_ | refine zC ?_ | fail))
     (conv => whnf); (refine Nxt.of ((d + 1, v)) [5, 11, 12, 81, 82, 83, 84, 85, 86, 87, 88, 89, 90, 91, 92, 93, 94, 95, 96, 97, 98, 99, 100, 101, 102, 103, 104, 105, 106, 107, 108, 109, 110, 111, 112, 113, 114, 115, 116, 117, 118, 119, 120, 121, 122, 123, 124, 125, 126, 127, 128, 129, 130] Qr Qr Qr ?_ ?_ Qy ?_ <;> (try dsimp only) <;> (try omega))
     rw [seqL_succ, ← List.append_assoc]
     exact Qs
   ·obtain rfl : d = p.duties.length := by omega
    repeat' ((conv => whnf) <;> (first | refine zM ?_ | refine zW ?_ | intro _ | exact zF | refine Br.tt ?_ | refine Br.ff ?_ | (refine Br.mk (fun h => ?_) (fun h => ?_) <;> (try simp only [sh] at h) <;> try first | (exfalso; omega) | exact absurd trivial h | (simp at h; done)) | refine zA ?_ | refine zN ?_ | refine zO ?_ | refine zP ?_ | refine zB ?_ | refine lB ?_ | refine lBA ?_ | refine zK ?_ | refine s1 ?_ | refine sA ?_ | refine zC ?_ | fail))
    (conv => whnf); (refine Nxt.of ((w + 1, v)) [5, 10, 11, 12, 75, 76, 77, 78, 79, 80, 81, 82, 83, 84, 85, 86, 87, 88, 89, 90, 91, 92, 93, 94, 95, 96, 97, 98, 99, 100, 101, 102, 103, 104, 105, 106, 107, 108, 109, 110, 111, 112, 113, 114, 115, 116, 117, 118, 119, 120, 121, 122, 123, 124, 125, 126, 127, 128, 129, 130, 131] Qr Qr Qr ?_ ?_ Qy ?_ <;> (try dsimp only) <;> (try omega))
    rw [seqL_succ, ← List.append_assoc]
    exact Qs
  ·obtain rfl : w = p.workers.length := by omega
   repeat' ((conv => whnf) <;> (first | refine zM ?_ | refine zW ?_ | intro _ | exact zF | refine Br.tt ?_ | refine Br.ff ?_ | (refine Br.mk (fun h => ?_) (fun h => ?_) <;> (try simp only [sh] at h) <;> try first | (exfalso; omega) | exact absurd trivial h | (simp at h; done)) | refine zA ?_ | refine zN ?_ | refine zO ?_ | refine zP ?_ | refine zB ?_ | refine lB ?_ | refine lBA ?_ | refine zK ?_ | refine s1 ?_ | refine sA ?_ | refine zC ?_ | fail))
   conv => whnf
   refine .out _ (.cons _ (.cons_cons _ (List.nil_sublist _))) ⟨_, rfl, ?_⟩
   rw [baseP, if_pos hv]
end Go.Proofs.YtjfnkmlnbaianaaGreat
namespace Go.Proofs.YtjfnkmlnbaianaaGreat
open Go.E2 Go.Wage
theorem dmBase_ok (p : Pl) (hs : Small p) (hn : p.duties.length ≤ 100) (hm : p.workers.length ≤ 100) : FnA Tryz.prog 16 [.agg (pcs p)] (.sl 3 ((baseP p).map sgav)) := by
 by_cases hv : validP p = true
 ·refine FnE.turn (dmBase_raw p hs hv hn hm) ?_
  rintro _ _ ⟨v, rfl, rfl⟩
  refine ⟨_, [], ⟨rfl, rfl⟩, fun c H w h0 => ?_⟩
  obtain ⟨H1, l1, s1⟩ := h0.freezeRow (i := 0) rfl
  exact ⟨H1, l1, s1.sub (List.nil_sublist _), fun v hr => Sb.rel s1 (.row 0 rfl) hr⟩
 ·have c1 := oPrep_no p hs (Bool.eq_false_iff.2 hv)
  have e : baseP p = [] := by rw [baseP, if_neg hv]
  rw [e]
  refine FnE.turn (Φ := fun r E => r = .v (.slice none 0 0) ∧ E = []) ?_ ?_
  ·refine fn_run (T := tab) Tryz.func16 rfl Tryz.ntmps16 rfl Tryz.results16 (fun _ => ?_)
   repeat' ((conv => whnf) <;> (first | refine zM ?_ | refine zW ?_ | intro _ | exact zF | refine Br.tt ?_ | refine Br.ff ?_ | (refine Br.mk (fun h => ?_) (fun h => ?_) <;> (try simp only [sh] at h) <;> try first | (exfalso; omega) | exact absurd trivial h | (simp at h; done)) | refine zA ?_ | refine zN ?_ | refine zO ?_ | refine zP ?_ | refine zB ?_ | refine zL ent35 c1 ?_ | refine zG ent35 (fun h => c1) ?_ | refine lB ?_ | refine lBA ?_ | refine zK ?_ | refine s1 ?_ | refine sA ?_ | refine zC ?_ | fail))
   all_goals (conv => whnf)
   all_goals exact .out _ (by exact List.nil_sublist _) ⟨rfl, rfl⟩
  ·rintro _ _ ⟨rfl, rfl⟩
   exact ⟨_, [], ⟨rfl, rfl⟩, fun c H w h0 => ⟨H, Cells.le_refl _, h0, fun v hr => Sb.rel h0 .nil hr⟩⟩
end Go.Proofs.YtjfnkmlnbaianaaGreat
