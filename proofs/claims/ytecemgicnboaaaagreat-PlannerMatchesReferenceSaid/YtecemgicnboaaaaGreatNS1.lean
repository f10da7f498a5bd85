/-
  Walks: package planner: minutes, newSearch, burn, clean.
  Conditions: those of each theorem.
-/
import Derived.Test.YtecemgicnboaaaaGreatRO7
import Derived.Test.YtecemgicnboaaaaGreatGP
import Derived.Test.YtecemgicnboaaaaGreatE5H
namespace Go.Proofs.YtecemgicnboaaaaGreat
open Go.E2 Go.Wage
abbrev pt (g : Nat) : AV := .v (.pointer (some ⟨g, 0, none⟩))
/-- the cells of a search -/
def sccs (p : Pl) (f : Value) (fu : Int) (b : BS) (lg : Value) : List AV := [.v (.string p.zone.name), I p.zone.base, .sl 2 (p.zone.chs.map chav), .sl 3 (p.duties.map duav), .sl 5 (p.workers.map wkav), I p.lim.rest, I p.lim.week, I p.lim.night.1, I p.lim.night.2, I p.lim.minor,
  .fp (ccs p) 0, .sl 1 (((List.range (p.duties.length + 1)).map (lstP p)).map I), I fu, .v f, B b.found, .sl 1 (b.best.map I), I b.cost, .v lg]
abbrev Se (g : Nat) (p : Pl) (f : Value) (fu : Int) (b : BS) (lg : Value) : Ent := .blk g 76 false (sccs p f fu b lg)
theorem pMinutes_ok (d : Du) (h : -9000000000000000000 ≤ minD d ∧ minD d ≤ 9000000000000000000) : FnA Tryz.prog 64 [duav d] (I (minD d)) := by
  unfold minD at *
  refine fn_run (T := tab) Tryz.func64 rfl Tryz.ntmps64 rfl Tryz.results64 (fun _ => ?_)
  repeat' ((conv => whnf) <;> (first | refine zM ?_ | refine zW ?_ | intro _ | exact zF | refine Fin.pure ?_ | refine Br.tt ?_ | refine Br.ff ?_ | (refine Br.mk (fun h => ?_) (fun h => ?_) <;> (try simp only [sh] at h) <;> try first | (exfalso; omega) | exact absurd trivial h | (simp at h; done)) | refine zA ?_ | refine zN ?_ | refine zO ?_ | refine zP ?_ | refine zB ?_ | refine lB ?_ | refine lBA ?_ | refine zK ?_ | refine s1 ?_ | refine sA ?_ | refine zC ?_ | fail))
theorem lstP_at {p : Pl} {d : Nat} (h : d < p.duties.length) : lstP p d = lstP p (d + 1) + cheapL p.workers * minD (p.duties.getD d default) := by
  unfold lstP
  rw [List.drop_eq_getElem_cons h, List.map_cons, List.sum_cons, getD_at h]
  omega
theorem cheapL_bdP : ∀ {l : List Wk}, (∀ w ∈ l, 0 ≤ w.wage ∧ w.wage ≤ 1000000) → 0 ≤ cheapL l ∧ cheapL l ≤ 1000000
  | [], _ => by simp [cheapL]
  | w :: l, h => by
    have key : ∀ (l : List Wk) (c : Int), 0 ≤ c ∧ c ≤ 1000000 → (∀ w ∈ l, 0 ≤ w.wage ∧ w.wage ≤ 1000000) → 0 ≤ l.foldl (fun c x => if x.wage < c then x.wage else c) c ∧ l.foldl (fun c x => if x.wage < c then x.wage else c) c ≤ 1000000 := by
      intro l
      induction l with
      | nil => intro c hc _; exact hc
      | cons x l ih =>
        intro c hc hl
        rw [List.foldl_cons]
        refine ih _ ?_ fun w hw => hl w (by simp [hw])
        have := hl x (by simp)
        split <;> omega
    exact key l w.wage (h w (by simp)) fun x hx => h x (by simp [hx])
theorem wage_bdP {p : Pl} (hv : validP p = true) : ∀ w ∈ p.workers, 0 ≤ w.wage ∧ w.wage ≤ 1000000 := fun w hw => by
  have := (wkOk_iff.1 (List.all_eq_true.1 (validP_iff.1 hv).2.2.2.2.1 w hw)).2.1
  unfold inB at this
  rwa [decide_eq_true_eq] at this
theorem min_bd {p : Pl} (hv : validP p = true) : ∀ d ∈ p.duties, 0 ≤ minD d ∧ minD d ≤ 1440 := fun d hd => by
  have := List.all_eq_true.1 (validP_iff.1 hv).2.2.2.1 d hd
  unfold dutyOk at this
  have := duB_bd (Bool.and_eq_true_iff.1 this).1
  unfold minD
  omega
theorem mul_bd {a b : Int} (ha : 0 ≤ a ∧ a ≤ 1000000) (hb : 0 ≤ b ∧ b ≤ 1440) : 0 ≤ a * b ∧ a * b ≤ 1440000000 := by
  refine ⟨Int.mul_nonneg ha.1 hb.1, ?_⟩
  have := Int.mul_le_mul ha.2 hb.2 hb.1 (by omega : (0 : Int) ≤ 1000000)
  omega
theorem lst_bd {p : Pl} (hv : validP p = true) : ∀ k, k ≤ p.duties.length → 0 ≤ lstP p (p.duties.length - k) ∧ lstP p (p.duties.length - k) ≤ 1440000000 * k
  | 0, _ => by
    unfold lstP
    rw [List.drop_eq_nil_of_le (by omega)]
    simp
  | k + 1, h => by
    have ih := lst_bd hv k (by omega)
    have e := lstP_at (p := p) (d := p.duties.length - (k + 1)) (by omega)
    rw [show p.duties.length - (k + 1) + 1 = p.duties.length - k by omega] at e
    have := mul_bd (cheapL_bdP (wage_bdP hv)) (min_bd hv _ (getD_mem (show p.duties.length - (k + 1) < p.duties.length by omega)))
    rw [e]
    omega
theorem lst_bd' {p : Pl} (hv : validP p = true) (d : Nat) (hd : d ≤ p.duties.length) : 0 ≤ lstP p d ∧ lstP p d ≤ 50000000000 := by
  have := lst_bd hv (p.duties.length - d) (by omega)
  have h24 := (validP_iff.1 hv).2.1
  rw [show p.duties.length - (p.duties.length - d) = d by omega] at this
  omega
theorem take_snocP {α : Type} [Inhabited α] {l : List α} {k : Nat} (h : k < l.length) : l.take (k + 1) = l.take k ++ [l.getD k default] := by
  rw [List.take_succ_eq_append_getElem h, getD_at h]
theorem cheap_snocP (l : List Wk) (w : Wk) : cheapL (l ++ [w]) = if l.length = 0 ∨ w.wage < cheapL l then w.wage else cheapL l := cheap_snoc l w
theorem pNew1_ok (p : Pl) (w : Int) (d : Nat) (hw : 0 ≤ w ∧ w ≤ 1000000) (hd : d < p.duties.length) (hv : validP p = true) :
    FnA Tryz.prog 63 [I d, .fp [I w] 0, .fp (pcs p) 0] (I (w * minD (p.duties.getD d default))) := by
  have hm := min_bd hv _ (getD_mem hd)
  have c1 := pMinutes_ok (p.duties.getD d default) (by omega)
  have hb := mul_bd hw hm
  have hld : (p.duties.map duav).length = p.duties.length := by simp
  refine fn_run (T := tab) Tryz.func63 rfl Tryz.ntmps63 rfl Tryz.results63 (fun _ => ?_)
  repeat' ((conv => whnf) <;> (first | refine zM ?_ | refine zW ?_ | intro _ | exact zF | refine Fin.pure ?_ | refine Br.tt ?_ | refine Br.ff ?_ | (refine Br.mk (fun h => ?_) (fun h => ?_) <;> (try simp only [sh] at h) <;> try first | (exfalso; omega) | exact absurd trivial h | (simp at h; done)) | refine zA ?_ | refine zN ?_ | refine zO ?_ | refine zP ?_ | refine zB ?_ | refine zL ent64 c1 ?_ | refine zG ent64 (fun h => c1) ?_ | refine lB ?_ | refine lBA ?_ | refine zK ?_ | refine s1 ?_ | refine sA ?_ | refine zC ?_ | fail))
/-- the list of least costs while it is laid, from behind -/
def layL (p : Pl) (k : Nat) : List Int := List.replicate (p.duties.length - k) 0 ++ ((List.range (p.duties.length + 1)).drop (p.duties.length - k)).map (lstP p)
theorem layL_len {p : Pl} {k : Nat} (h : k ≤ p.duties.length) : (layL p k).length = p.duties.length + 1 := by
  unfold layL
  simp
  omega
theorem layL_get {p : Pl} {k : Nat} (h : k ≤ p.duties.length) : (layL p k).getD (p.duties.length - k) default = lstP p (p.duties.length - k) := by
  unfold layL
  rw [List.getD_eq_getElem?_getD, List.getElem?_append_right (by simp), List.length_replicate, Nat.sub_self, List.getElem?_map, List.getElem?_drop, List.getElem?_range (by omega)]
  simp
theorem layL_set {p : Pl} {k : Nat} (h : k < p.duties.length) : (layL p k).set (p.duties.length - (k + 1)) (lstP p (p.duties.length - (k + 1))) = layL p (k + 1) := by
  unfold layL
  have e1 : p.duties.length - k = (p.duties.length - (k + 1)) + 1 := by omega
  have e2 : (List.range (p.duties.length + 1)).drop (p.duties.length - (k + 1)) = (p.duties.length - (k + 1)) :: (List.range (p.duties.length + 1)).drop (p.duties.length - k) := by
    rw [List.drop_eq_getElem_cons (by simp; omega), List.getElem_range, e1]
  rw [e2, List.map_cons, e1, List.replicate_succ', List.append_assoc, List.set_append_right _ _ (by simp)]
  simp
def rawS (p : Pl) (v : Value) (fu : Int) : List AV := [.v (.string p.zone.name), I p.zone.base, .sl 2 (p.zone.chs.map chav), .sl 3 (p.duties.map duav), .sl 5 (p.workers.map wkav), I p.lim.rest, I p.lim.week, I p.lim.night.1, I p.lim.night.2, I p.lim.minor, .fp (ccs p) 0, .v v, I fu, .v .nilFunc, B false, .v (.slice none 0 0), I 0, .v (.slice none 0 0)]
set_option maxRecDepth 4000 in
set_option maxHeartbeats 8000000 in
theorem pNew_raw (p : Pl) (fu : Int) (hs : Small p) (hv : validP p = true) : FnE Tryz.prog 31 [.agg (pcs p), .fp (ccs p) 0, I fu] fun r E => ∃ g v, r = pt g ∧ E = [.row v 3 1 0 false (((List.range (p.duties.length + 1)).map (lstP p)).map I), .blk g 76 false (rawS p v fu)] := by
  have hsd := hs.du
  have hsw := hs.wk
  have hld : (p.duties.map duav).length = p.duties.length := by simp
  have hlw : (p.workers.map wkav).length = p.workers.length := by simp
  have hwg := wage_bdP hv
  refine fn_run (T := tab) Tryz.func31 rfl Tryz.ntmps31 rfl Tryz.results31 (fun _ => ?_)
  repeat' ((conv => whnf) <;> (first | (refine Kx.eff rfl (Eff.box rfl rfl rfl) (by rintro _ _ ⟨_, _, rfl⟩; exact Qs) ?_ <;> rintro _ _ ⟨g, rfl, rfl⟩) | (refine Kx.eff rfl (Eff.mkS (T := tab) (N := p.duties.length + 1) (z := .int .i64 0) rfl rfl rfl rfl (congrArg (fun q : Int => some (I q)) (show ((p.duties.map duav).length : Int) + 1 = ((p.duties.length + 1 : Nat) : Int) by omega)) (by omega)) (by rintro _ _ ⟨_, _, _, _, rfl⟩; exact Qs) ?_ <;> rintro _ _ ⟨A1, B1, C1, rfl, rfl⟩) | refine CK.anyK [0, 1, 2, 3, 4, 5, 6] [7, 8, 9, 10] _ (List.Sublist.refl _) Qk ?_ | refine zM ?_ | refine zW ?_ | intro _ | exact zF | refine Br.tt ?_ | refine Br.ff ?_ | (refine Br.mk (fun h => ?_) (fun h => ?_) <;> (try simp only [sh] at h) <;> try first | (exfalso; omega) | exact absurd trivial h | (simp at h; done)) | refine zA ?_ | refine zN ?_ | refine zO ?_ | refine zP ?_ | refine zB ?_ | refine lB ?_ | refine lBA ?_ | refine lM ?_ | refine lM0 ?_ | refine lMA ?_ | refine sM ?_ | refine zK ?_ | refine s1 ?_ | refine sA ?_ | refine Kx.nil ?_ | refine Kx.stp rfl rfl Qs ?_ | refine kA ?_ | (refine Kx.frzR 0 rfl ?_ <;> refine kF ?_) | refine kP ?_ | refine k1 ?_ | refine kB ?_ | refine kL ?_ | refine zC ?_ | fail))
  rename_i gw
  (conv => whnf); refine CK.loopK [9, 10, 26, 27, 28, 29, 30, 31, 32, 33, 34, 35, 36, 37, 38, 39, 40, 41] (σ := Nat × Int) (fun s => s.1 ≤ p.workers.length ∧ s.2 = cheapL (p.workers.take s.1)) (fun ⟨k, _⟩ => [(26, I k)]) (fun ⟨_, c⟩ => [.blk gw 3 false [I c]]) _ (fun s => p.workers.length - s.1) (0, 0) ⟨Nat.zero_le _, by simp [cheapL]⟩ Qy (List.Sublist.refl _) ?_
  conv => whnf
  rintro ⟨k, w⟩ ⟨i1, i2⟩
  simp only at i1 i2
  by_cases hk : k < p.workers.length
  · have hsn := cheap_snocP (p.workers.take k) (p.workers.getD k default)
    rw [← take_snocP hk, ← i2, List.length_take] at hsn
    repeat' ((conv => whnf) <;> (first | refine zM ?_ | refine zW ?_ | intro _ | exact zF | refine Br.tt ?_ | refine Br.ff ?_ | (refine Br.mk (fun h => ?_) (fun h => ?_) <;> (try simp only [sh] at h) <;> try first | (exfalso; omega) | exact absurd trivial h | (simp at h; done)) | refine zA ?_ | refine zN ?_ | refine zO ?_ | refine zP ?_ | refine zB ?_ | refine lB ?_ | refine lBA ?_ | refine lM ?_ | refine lM0 ?_ | refine lMA ?_ | refine sM ?_ | refine zK ?_ | refine s1 ?_ | refine sA ?_ | refine zC ?_ | fail))
    · rw [if_pos (by omega)] at hsn
      (conv => whnf); (refine Nxt.of ((k + 1, _)) [9, 10, 26, 27, 28, 29, 30, 31, 32, 33, 34, 35, 36, 37, 38, 39, 40, 41] Qr Qr Qr ?_ ?_ Qy Qs <;> (try dsimp only) <;> (try omega))
    · rw [if_neg (by omega)] at hsn
      (conv => whnf); (refine Nxt.of ((k + 1, w)) [9, 10, 26, 27, 28, 29, 30, 31, 32, 33, 34, 35, 36, 37, 38, 39, 40, 41] Qr Qr Qr ?_ ?_ Qy Qs <;> (try dsimp only) <;> (try omega))
  rw [List.take_of_length_le (by omega)] at i2
  subst i2
  have hcw := cheapL_bdP hwg
  repeat' ((conv => whnf) <;> (first | refine zM ?_ | refine zW ?_ | intro _ | exact zF | refine Br.tt ?_ | refine Br.ff ?_ | (refine Br.mk (fun h => ?_) (fun h => ?_) <;> (try simp only [sh] at h) <;> try first | (exfalso; omega) | exact absurd trivial h | (simp at h; done)) | refine zA ?_ | refine zN ?_ | refine zO ?_ | refine zP ?_ | refine zB ?_ | refine lB ?_ | refine lBA ?_ | refine lM ?_ | refine lM0 ?_ | refine lMA ?_ | refine sM ?_ | refine zK ?_ | refine s1 ?_ | refine sA ?_ | refine zC ?_ | fail))
  refine CK.frzB 0 rfl ?_
  refine CK.frzB 3 rfl ?_
  refine CK.see 11 rfl (Sb.fn (.cons (Sb.ptr 0 rfl) (.cons (Sb.ptr 3 rfl) .nil))) ?_
  have hl0 : (layL p 0).map I = List.replicate (p.duties.length + 1) (AV.v (.int .i64 0)) := by
    unfold layL
    have e : (List.range (p.duties.length + 1)).drop (p.duties.length - 0) = [p.duties.length] := by
      rw [Nat.sub_zero, List.drop_eq_getElem_cons (by simp), List.getElem_range, List.drop_eq_nil_of_le (by simp)]
    have e2 : lstP p p.duties.length = 0 := by unfold lstP; rw [List.drop_eq_nil_of_le (Nat.le_refl _)]; rfl
    rw [e, Nat.sub_zero, List.map_append, List.map_replicate, List.map_cons, List.map_nil, e2, List.replicate_succ']
    rfl
  refine CK.perm (erase_perm (i := 2) rfl).symm ?_
  (conv => whnf); refine CK.loopK [12, 47, 48, 49, 50, 51, 52, 53, 54, 55, 56, 57, 58, 59, 60, 61, 62, 63, 64, 65, 66, 67, 68] (σ := Int × Nat) (fun s => s.2 ≤ p.duties.length ∧ s.1 = (p.duties.length : Int) - 1 - s.2) (fun ⟨t, _⟩ => [(12, I t)]) (fun ⟨_, j⟩ => [.row (.slice A1 B1 C1) 3 1 0 false ((layL p j).map I)]) _ (fun s => p.duties.length - s.2) (((p.duties.map duav).length : Int) - 1, 0) ⟨Nat.zero_le _, by dsimp only; omega⟩ Qy (by dsimp only; rw [hl0]; exact List.Sublist.refl _) ?_
  conv => whnf
  rintro ⟨t, j⟩ ⟨j1, j2⟩
  simp only at j1 j2
  have hll := layL_len j1
  have hll2 : ((layL p j).map I).length = p.duties.length + 1 := by rw [List.length_map, hll]
  by_cases hj : j < p.duties.length
  · obtain ⟨d, rfl⟩ := Int.eq_ofNat_of_zero_le (show 0 ≤ t by omega)
    have hd : d = p.duties.length - (j + 1) := by omega
    have hdl : d < p.duties.length := by omega
    have c1 := pNew1_ok p (cheapL p.workers) d hcw hdl hv
    have hb1 := lst_bd' hv (d + 1) (by omega)
    have hm := mul_bd hcw (min_bd hv _ (getD_mem hdl))
    have hg := layL_get j1
    rw [show p.duties.length - j = d + 1 by omega] at hg
    have hg2 : (layL p j).getD ((d : Int) + 1).toNat default = lstP p (d + 1) := by rw [show ((d : Int) + 1).toNat = d + 1 by omega]; exact hg
    have hst := layL_set hj
    rw [← hd, lstP_at hdl] at hst
    have hset : ((layL p j).map I).set (d : Int).toNat ((I ((layL p j).getD (d : Int).toNat default)).setCell 0 (I ((layL p j).getD ((d : Int) + 1).toNat default + cheapL p.workers * minD (p.duties.getD d default)))) = (layL p (j + 1)).map I := by
      rw [← hst, hg2, List.map_set, Int.toNat_natCast]
      rfl
    repeat' ((conv => whnf) <;> (first | refine LK.stRM (a := (d : Int).toNat) (j := 0) 0 rfl rfl rfl rfl rfl (Nat.zero_le _) (by omega) rfl rfl ?_ | refine Ask.of (Gr.callC ent63 rfl (.refl _) rfl (SbL.refl _) c1) ?_ | refine iR (T := tab) ?_ | refine zM ?_ | refine zW ?_ | intro _ | exact zF | refine Br.tt ?_ | refine Br.ff ?_ | (refine Br.mk (fun h => ?_) (fun h => ?_) <;> (try simp only [sh] at h) <;> try first | (exfalso; omega) | exact absurd trivial h | (simp at h; done)) | refine zA ?_ | refine zN ?_ | refine zO ?_ | refine zP ?_ | refine zB ?_ | refine lB ?_ | refine lBA ?_ | refine lM ?_ | refine lM0 ?_ | refine lMA ?_ | refine sM ?_ | refine zK ?_ | refine s1 ?_ | refine sA ?_ | refine zC ?_ | fail))
    (conv => whnf); (refine Nxt.of (((d : Int) - 1, j + 1)) [12, 47, 48, 49, 50, 51, 52, 53, 54, 55, 56, 57, 58, 59, 60, 61, 62, 63, 64, 65, 66, 67, 68] Qr Qr Qr ?_ ?_ Qy ?_ <;> (try dsimp only) <;> (try omega))
    rw [hset]
    exact Qs
  · obtain rfl : j = p.duties.length := by omega
    have hfin : layL p p.duties.length = (List.range (p.duties.length + 1)).map (lstP p) := by
      unfold layL
      rw [Nat.sub_self, List.replicate_zero, List.nil_append, List.drop_zero]
    dsimp only
    rw [hfin]
    repeat' ((conv => whnf) <;> (first | refine zM ?_ | refine zW ?_ | intro _ | exact zF | refine Br.tt ?_ | refine Br.ff ?_ | (refine Br.mk (fun h => ?_) (fun h => ?_) <;> (try simp only [sh] at h) <;> try first | (exfalso; omega) | exact absurd trivial h | (simp at h; done)) | refine zA ?_ | refine zN ?_ | refine zO ?_ | refine zP ?_ | refine zB ?_ | refine lB ?_ | refine lBA ?_ | refine lM ?_ | refine lM0 ?_ | refine lMA ?_ | refine sM ?_ | refine zK ?_ | refine s1 ?_ | refine sA ?_ | refine zC ?_ | fail))
    conv => whnf
    exact .out [_, _] (.cons_cons _ (.cons _ (.cons_cons _ (List.nil_sublist _)))) ⟨_, _, rfl, rfl⟩
theorem pNew_ok (p : Pl) (fu : Int) (hs : Small p) (hv : validP p = true) : FnE Tryz.prog 31 [.agg (pcs p), .fp (ccs p) 0, I fu] fun r E => ∃ g, r = pt g ∧ E = [Se g p .nilFunc fu ⟨false, [], 0⟩ (.slice none 0 0)] := by
  refine FnE.step (pNew_raw p fu hs hv) ?_
  rintro _ _ ⟨g, v, rfl, rfl⟩
  refine ⟨_, ⟨g, rfl, rfl⟩, fun c H w h0 => ?_⟩
  obtain ⟨H1, l1, s1⟩ := h0.freezeRow (i := 0) rfl
  have s2 := s1.seeB (i := 1) (off := 11) rfl rfl (Sb.row 0 rfl)
  have s3 := s2.seeB (i := 1) (off := 15) rfl rfl (Sb.nil (k := 1))
  exact ⟨H1, l1, s3.sub (.cons _ (.refl _))⟩
theorem pBurn_ok {c : Ctx} {R : List Ent} (g : Nat) (p : Pl) (f : Value) (fu : Int) (b : BS) (lg : Value) (hf : -1 ≤ fu ∧ fu ≤ 100000) :
    FnL Tryz.prog c 65 [pt g] (Se g p f fu b lg :: R) fun a L' => a = B (decide (0 ≤ fu - 1)) ∧ L' = Se g p f (fu - 1) b lg :: R := by
  refine fnL_run (T := tab) Tryz.func65 rfl Tryz.ntmps65 rfl Tryz.results65 (fun _ hw0 => ?_)
  repeat' ((conv => whnf) <;> (first | refine zM ?_ | refine zW ?_ | intro _ | exact zF | refine Br.tt ?_ | refine Br.ff ?_ | (refine Br.mk (fun h => ?_) (fun h => ?_) <;> (try simp only [sh] at h) <;> try first | (exfalso; omega) | exact absurd trivial h | (simp at h; done)) | refine zA ?_ | refine zN ?_ | refine zO ?_ | refine zP ?_ | refine zB ?_ | refine lB ?_ | refine lBA ?_ | refine zK ?_ | refine s1 ?_ | refine sA ?_ | refine zC ?_ | fail))
  conv => whnf
  exact .out _ (List.Sublist.refl _) ⟨rfl, rfl⟩
theorem clean_at {p : Pl} {pre : List Int} (h : pre ≠ []) : cleanB p pre = (violW p (pre.getD (pre.length - 1) default).toNat (mineR pre (pre.getD (pre.length - 1) default).toNat)).isEmpty := by
  rcases List.eq_nil_or_concat pre with rfl | ⟨q, x, rfl⟩
  · exact absurd rfl h
  · unfold cleanB
    simp [List.getD]
set_option maxHeartbeats 4000000 in
theorem pClean_ok (p : Pl) (f : Value) (fu : Int) (b : BS) (lg : Value) (pre : List Int) (hs : Small p) (hv : validP p = true) (hl : pre.length ≤ p.duties.length) (hw : ∀ w ∈ pre, 0 ≤ w ∧ w < p.workers.length) :
    FnA Tryz.prog 66 [.fp (sccs p f fu b lg) 0, .sl 1 (pre.map I)] (B (cleanB p pre)) := by
  have hlp : (pre.map I).length = pre.length := by simp
  have hsd := hs.du
  by_cases h0 : pre = []
  · subst h0
    refine fn_run (T := tab) Tryz.func66 rfl Tryz.ntmps66 rfl Tryz.results66 (fun _ => ?_)
    repeat' ((conv => whnf) <;> (first | (refine Kx.eff rfl (Eff.callW (Φ := fun _ E => E = []) ent46 rfl (fun h => by simp at h) (fun _ _ h => h) rfl Qx (SbL.refl [.fp (ccs p) 0, .sl 1 (([] : List Int).map I), I (([] : List Int).getD (((([] : List Int).map I).length : Int) - 1).toNat default)]) (.sl 4 [])) (by rintro _ _ ⟨_, _, _, _, rfl⟩; exact Qs) ?_ <;> rintro _ _ ⟨a, -, ha, rfl, rfl⟩ <;> obtain rfl := ha (by simp)) | refine CK.anyK [0, 1, 2, 3, 4, 5, 6, 7, 8, 9, 10, 11, 12, 13, 14] [15, 16, 17, 18, 19] _ (List.Sublist.refl _) Qk ?_ | refine zM ?_ | refine zW ?_ | intro _ | exact zF | refine Br.tt ?_ | refine Br.ff ?_ | (refine Br.mk (fun h => ?_) (fun h => ?_) <;> (try simp only [sh] at h) <;> try first | (exfalso; omega) | exact absurd trivial h | (simp at h; done)) | refine zA ?_ | refine zN ?_ | refine zO ?_ | refine zP ?_ | refine zB ?_ | refine lB ?_ | refine lBA ?_ | refine zK ?_ | refine s1 ?_ | refine sA ?_ | refine Kx.nil ?_ | refine Kx.stp rfl rfl Qs ?_ | refine kA ?_ | (refine Kx.frzR 0 rfl ?_ <;> refine kF ?_) | refine kP ?_ | refine k1 ?_ | refine kB ?_ | refine kL ?_ | refine zC ?_ | fail))
  · have hpos : 0 < pre.length := List.length_pos_iff.2 h0
    have hx := hw _ (getD_mem (show pre.length - 1 < pre.length by omega))
    have c1 := oWorker_pre p pre (pre.getD (pre.length - 1) default).toNat hv hs hl (by omega)
    have e2 : (((pre.map I).length : Int) - 1).toNat = pre.length - 1 := by omega
    rw [clean_at h0]
    rw [Int.toNat_of_nonneg hx.1, ← e2] at c1
    rw [← e2] at hx ⊢
    generalize hX : violW p (pre.getD (((pre.map I).length : Int) - 1).toNat default).toNat (mineR pre (pre.getD (((pre.map I).length : Int) - 1).toNat default).toNat) = X at *
    rw [Int.toNat_of_nonneg hx.1] at hX
    rw [hX] at c1
    refine fn_run (T := tab) Tryz.func66 rfl Tryz.ntmps66 rfl Tryz.results66 (fun _ => ?_)
    repeat' ((conv => whnf) <;> (first | (refine Kx.eff rfl (Eff.callW ent46 rfl (fun _ => c1) (fun _ _ h => h.1) rfl Qx (SbL.refl _) (.sl 4 [])) (by rintro _ _ ⟨_, _, _, _, rfl⟩; exact Qs) ?_ <;> rintro _ _ ⟨a, ha, -, rfl, rfl⟩ <;> obtain ⟨-, l, rfl, hm, -⟩ := ha (by simp [h0])) | refine CK.anyK [0, 1, 2, 3, 4, 5, 6, 7, 8, 9, 10, 11, 12, 13, 14] [15, 16, 17, 18, 19] _ (List.Sublist.refl _) Qk ?_ | refine zM ?_ | refine zW ?_ | intro _ | exact zF | refine Br.tt ?_ | refine Br.ff ?_ | (refine Br.mk (fun h => ?_) (fun h => ?_) <;> (try simp only [sh] at h) <;> try first | (exfalso; omega) | exact absurd trivial h | (simp at h; done)) | refine zA ?_ | refine zN ?_ | refine zO ?_ | refine zP ?_ | refine zB ?_ | refine lB ?_ | refine lBA ?_ | refine zK ?_ | refine s1 ?_ | refine sA ?_ | refine Kx.nil ?_ | refine Kx.stp rfl rfl Qs ?_ | refine kA ?_ | (refine Kx.frzR 0 rfl ?_ <;> refine kF ?_) | refine kP ?_ | refine k1 ?_ | refine kB ?_ | refine kL ?_ | refine zC ?_ | fail))
    conv => whnf
    refine Fin.pure (congrArg B ?_)
    rw [decide_eq_false (by omega), Bool.false_or, List.length_map, Bool.eq_iff_iff, decide_eq_true_eq, List.isEmpty_iff]
    constructor
    · intro h
      have hl0 : l = [] := List.eq_nil_of_length_eq_zero (by omega)
      subst hl0
      exact List.eq_nil_iff_forall_not_mem.2 fun v hv => by have := (hm v).2 hv; cases this
    · intro h
      subst h
      have hl0 : l = [] := List.eq_nil_iff_forall_not_mem.2 fun v hv => by have := (hm v).1 hv; cases this
      subst hl0
      rfl
end Go.Proofs.YtecemgicnboaaaaGreat
