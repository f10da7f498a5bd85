/-
  Walks: package span (no Has, no Valid): proper, edges, sortBy, sweep, Normal, Has, Valid.
  Conditions: those of each theorem.
-/
import Derived.Test.YtnekeokgognegaaTab
import Derived.Test.YtnekeokgognegaaE5E
import Derived.Test.YtnekeokgognegaaSh
import Derived.Test.YtnekeokgognegaaPC
namespace Go.Proofs.Ytnekeokgognegaa
open Go.E2 Go.Wage Go.Sort
def spav (s : Sp) : AV := .agg [I s.1, I s.2]
def eav (e : Ed) : AV := .agg [I e.at_, I e.d1, I e.d2]
def cmpI (a b : Int) : Int := if a < b then -1 else if b < a then 1 else 0
theorem proper_ok (s : Sp) : FnA Try.prog 61 [spav s] (B (prp s)) := by
  refine fn_run (T := tab) Try.func61 rfl Try.ntmps61 rfl Try.results61 (fun _ => ?_)
  repeat' ((conv => whnf) <;> (first | refine zM ?_ | refine zW ?_ | intro _ | exact zF | refine Fin.pure ?_ | refine Br.tt ?_ | refine Br.ff ?_ | (refine Br.mk (fun h => ?_) (fun h => ?_) <;> (try simp only [sh] at h) <;> try first | (exfalso; omega) | exact absurd trivial h | (simp at h; done)) | refine zA ?_ | refine zN ?_ | refine zO ?_ | refine zP ?_ | refine zB ?_ | refine lB ?_ | refine lBA ?_ | refine zK ?_ | refine s1 ?_ | refine sA ?_ | refine zC ?_ | fail))
theorem edges1_ok (e : Ed) : FnA Try.prog 63 [eav e] (I e.at_) := by
  refine fn_run (T := tab) Try.func63 rfl Try.ntmps63 rfl Try.results63 (fun _ => ?_)
  repeat' ((conv => whnf) <;> (first | refine zM ?_ | refine zW ?_ | intro _ | exact zF | refine Fin.pure ?_ | refine Br.tt ?_ | refine Br.ff ?_ | (refine Br.mk (fun h => ?_) (fun h => ?_) <;> (try simp only [sh] at h) <;> try first | (exfalso; omega) | exact absurd trivial h | (simp at h; done)) | refine zA ?_ | refine zN ?_ | refine zO ?_ | refine zP ?_ | refine zB ?_ | refine lB ?_ | refine lBA ?_ | refine zK ?_ | refine s1 ?_ | refine sA ?_ | refine zC ?_ | fail))
theorem isnan_ok (a : Int) : FnA Try.prog 83 [I a] (B false) := by
  refine fn_run (T := tab) Try.func83 rfl Try.ntmps83 rfl Try.results83 (fun _ => ?_)
  repeat' ((conv => whnf) <;> (first | refine zM ?_ | refine zW ?_ | intro _ | exact zF | refine Fin.pure ?_ | refine Br.tt ?_ | refine Br.ff ?_ | (refine Br.mk (fun h => ?_) (fun h => ?_) <;> (try simp only [sh] at h) <;> try first | (exfalso; omega) | exact absurd trivial h | (simp at h; done)) | refine zA ?_ | refine zN ?_ | refine zO ?_ | refine zP ?_ | refine zB ?_ | refine lB ?_ | refine lBA ?_ | refine zK ?_ | refine s1 ?_ | refine sA ?_ | refine zC ?_ | fail))
  exact congrArg B (by simp)
theorem cmpi_ok (a b : Int) : FnA Try.prog 77 [I a, I b] (I (cmpI a b)) := by
  have c1 := isnan_ok a
  have c2 := isnan_ok b
  refine fn_run (T := tab) Try.func77 rfl Try.ntmps77 rfl Try.results77 (fun _ => ?_)
  repeat' ((conv => whnf) <;> (first | refine zM ?_ | refine zW ?_ | intro _ | exact zF | refine Fin.pure ?_ | refine Br.tt ?_ | refine Br.ff ?_ | (refine Br.mk (fun h => ?_) (fun h => ?_) <;> (try simp only [sh] at h) <;> try first | (exfalso; omega) | exact absurd trivial h | (simp at h; done)) | refine zA ?_ | refine zN ?_ | refine zO ?_ | refine zP ?_ | refine zB ?_ | refine zL ent83 c1 ?_ | refine zG ent83 (fun h => c1) ?_ | refine zL ent83 c2 ?_ | refine zG ent83 (fun h => c2) ?_ | refine lB ?_ | refine lBA ?_ | refine zK ?_ | refine s1 ?_ | refine sA ?_ | refine zC ?_ | fail))
  all_goals exact congrArg I (by unfold cmpI; (repeat split) <;> first | rfl | omega)
theorem sortBy1_ok (kf : FuncId) (hent : EntersT Try.prog kf) (hkey : ∀ e, FnA Try.prog kf [eav e] (I e.at_)) (x y : Ed) : FnA Try.prog 76 ([eav x, eav y] ++ [.fp [.fn (.func kf) []] 0]) (I (cmpI x.at_ y.at_)) := by
  have c1 := cmpi_ok x.at_ y.at_
  refine fn_run (T := tab) Try.func76 rfl Try.ntmps76 rfl Try.results76 (fun _ => ?_)
  repeat' ((conv => whnf) <;> (first | refine Ask.of (Gr.callC hent rfl (Sb.refl _) rfl (SbL.refl _) (hkey _)) ?_ | refine LK.callC hent rfl (Sb.refl _) rfl (SbL.refl _) (hkey _) ?_ | refine zM ?_ | refine zW ?_ | intro _ | exact zF | refine Fin.pure ?_ | refine Br.tt ?_ | refine Br.ff ?_ | (refine Br.mk (fun h => ?_) (fun h => ?_) <;> (try simp only [sh] at h) <;> try first | (exfalso; omega) | exact absurd trivial h | (simp at h; done)) | refine zA ?_ | refine zN ?_ | refine zO ?_ | refine zP ?_ | refine zB ?_ | refine zL ent77 c1 ?_ | refine zG ent77 (fun h => c1) ?_ | refine lB ?_ | refine lBA ?_ | refine zK ?_ | refine s1 ?_ | refine sA ?_ | refine zC ?_ | fail))
def encE (e : Ed) : List Value := [.int .i64 e.at_, .int .i64 e.d1, .int .i64 e.d2]
theorem cmpI_lt (x y : Ed) : ltOf (fun x y : Ed => cmpI x.at_ y.at_) x y = decide (x.at_ < y.at_) := by
  unfold ltOf cmpI
  by_cases h : x.at_ < y.at_
  · simp [h]
  · simp only [h, if_false, decide_false]
    split <;> simp
theorem swoE : SWO (ltOf (fun x y : Ed => cmpI x.at_ y.at_)) := by
  refine ⟨fun x => ?_, fun x y z => ?_, fun x y z => ?_⟩ <;> simp only [cmpI_lt, decide_eq_true_eq, decide_eq_false_iff_not] <;> omega
theorem aggE : AggT Try.prog 82 3 := (tab_st tabOK rfl).1
theorem sortE_ok {c : Ctx} {L : List Ent} {g : FuncId} {caps : List AV} (hent : EntersT Try.prog g) (hcmp : ∀ x y, FnA Try.prog g ([eav x, eav y] ++ caps) (I (cmpI x.at_ y.at_))) {v : Value} {t : TypeId} {dl : List Ed} (i : Nat) (hi : L[i]? = some (.row v t 3 0 false (dl.map eav))) (hlen : dl.length < 4611686018427387904) :
    FnL Try.prog c 75 [.v v, .fn (.func g) caps] L fun r L' => r = .tup [] ∧ ∃ dl' : List Ed, dl'.Perm dl ∧ dl'.Pairwise (fun a b => a.at_ ≤ b.at_) ∧ L' = L.set i (.row v t 3 0 false (dl'.map eav)) := by
  letI : Inhabited Ed := ⟨⟨0, 0, 0⟩⟩
  refine (sort_of (P := Try.prog) (ρ := Try.sortE_ren) Try.sortE (by decide) (fun w => run_isAgg_t aggE w) (fun w => run_sizeOf' aggE.size w) (enc := encE) (fun _ => rfl) (fun x v hv => by simp [encE] at hv; rcases hv with rfl | rfl | rfl <;> rfl) _ swoE hent (fun _ => rfl) hcmp i hi hlen).mono ?_
  rintro a E ⟨rfl, d', h1, h2, rfl⟩
  refine ⟨rfl, d', h1, h2.imp fun {a b} h => ?_, rfl⟩
  rw [cmpI_lt] at h
  simp at h; exact h
theorem sortBy_ok {c : Ctx} {L : List Ent} {kf : FuncId} (hent : EntersT Try.prog kf) (hkey : ∀ e, FnA Try.prog kf [eav e] (I e.at_)) {v : Value} {t : TypeId} {dl : List Ed} (i : Nat) (hi : L[i]? = some (.row v t 3 0 false (dl.map eav))) (hlen : dl.length < 4611686018427387904) :
    FnL Try.prog c 62 [.v v, .fn (.func kf) []] L fun r L' => r = .tup [] ∧ ∃ dl' : List Ed, dl'.Perm dl ∧ dl'.Pairwise (fun a b => a.at_ ≤ b.at_) ∧ L' = L.set i (.row v t 3 0 false (dl'.map eav)) := by
  refine fnL_run (T := tab) Try.func62 rfl Try.ntmps62 rfl Try.results62 (fun _ hw0 => ?_)
  repeat' ((conv => whnf) <;> (first | (refine LK.frzB 0 rfl ?_ <;> refine LK.callL ent75 (sortE_ok ent76 (sortBy1_ok kf hent hkey) (i + 1) hi hlen) rfl rfl Ql (fun _ _ hcall => ?_) <;> obtain ⟨rfl, d', h1, h2, rfl⟩ := hcall) | refine zM ?_ | refine zW ?_ | intro _ | exact zF | refine Br.tt ?_ | refine Br.ff ?_ | (refine Br.mk (fun h => ?_) (fun h => ?_) <;> (try simp only [sh] at h) <;> try first | (exfalso; omega) | exact absurd trivial h | (simp at h; done)) | refine zA ?_ | refine zN ?_ | refine zO ?_ | refine zP ?_ | refine zB ?_ | refine lB ?_ | refine lBA ?_ | refine zK ?_ | refine s1 ?_ | refine sA ?_ | refine zC ?_ | fail))
  conv => whnf
  exact .out _ (List.sublist_cons_self _ _) ⟨rfl, d', h1, h2, rfl⟩
theorem map_ed1 {s : Sp} (h : prp s = true) : [AV.agg [I s.1, I 1, I 0], AV.agg [I s.2, I (-1), I 0]] = (ed1 s).map eav := by
  rw [show ed1 s = _ from if_pos h]; rfl
theorem map_ed2 {s : Sp} (h : prp s = true) : [AV.agg [I s.1, I 0, I 1], AV.agg [I s.2, I 0, I (-1)]] = (ed2 s).map eav := by
  rw [show ed2 s = _ from if_pos h]; rfl
theorem flat_tk {α β : Type} [Inhabited α] {f : α → List β} {l : List α} {k : Nat} (h : k < l.length) : (l.take (k + 1)).flatMap f = (l.take k).flatMap f ++ f (l.getD k default) := by
  rw [List.take_succ_eq_append_getElem h, List.flatMap_append]
  simp [List.getD, h]
theorem edges_ok (a b : List Sp) (hab : a.length + b.length ≤ 1000000000) : FnE Try.prog 57 [.sl 2 (a.map spav), .sl 2 (b.map spav)] fun r E => E = [] ∧ ∃ es : List Ed, r = .sl 3 (es.map eav) ∧ es.length ≤ 2000000000 ∧ (∀ e ∈ es, -1 ≤ e.d1 ∧ e.d1 ≤ 1 ∧ -1 ≤ e.d2 ∧ e.d2 ≤ 1) ∧ ∃ lb, Asc lb es ∧ t1 es = 0 ∧ t2 es = 0 ∧ ∀ x, (0 < c1 x es ↔ inS (a.filter prp) x) ∧ (0 < c2 x es ↔ inS (b.filter prp) x) := by
  have hla : (a.map spav).length = a.length := by simp
  have hlb : (b.map spav).length = b.length := by simp
  refine fn_run (T := tab) Try.func57 rfl Try.ntmps57 rfl Try.results57 (fun _ => ?_)
  repeat' ((conv => whnf) <;> (first | refine zM ?_ | refine zW ?_ | intro _ | exact zF | refine Fin.pure ?_ | refine Br.tt ?_ | refine Br.ff ?_ | (refine Br.mk (fun h => ?_) (fun h => ?_) <;> (try simp only [sh] at h) <;> try first | (exfalso; omega) | exact absurd trivial h | (simp at h; done)) | refine zA ?_ | refine zN ?_ | refine zO ?_ | refine zP ?_ | refine zB ?_ | refine lB ?_ | refine lBA ?_ | refine zK ?_ | refine s1 ?_ | refine sA ?_ | refine zC ?_ | fail))
  conv => whnf
  refine CK.nilrow 82 3 ?_
  (conv => whnf); refine CK.loop [5, 7, 12, 13, 14, 15, 16, 17, 18, 19, 20, 21, 22, 23, 24, 25, 26, 27] (σ := Nat × Value) (fun s => s.1 ≤ a.length) (fun ⟨k, v⟩ => [(5, .v v), (12, I k)]) (fun ⟨k, v⟩ => [.row v 82 3 0 false (((a.take k).flatMap ed1).map eav)]) (fun s => a.length - s.1) (0, .slice none 0 0) (Nat.zero_le _) Qy (List.Sublist.refl _) ?_
  conv => whnf
  rintro ⟨k, v⟩ hk
  simp only at hk
  by_cases hlt : k < a.length
  · have c1 := proper_ok (a.getD k default)
    have hb1 := (ed_small (a.take k)).1
    rw [List.length_take] at hb1
    have hft := flat_tk (f := ed1) hlt
    repeat' ((conv => whnf) <;> (first | (refine Nxt.of ((k + 1, _)) [5, 7, 12, 13, 14, 15, 16, 17, 18, 19, 20, 21, 22, 23, 24, 25, 26, 27] Qr Qr Qr ?_ ?_ Qy ?_ <;> (try dsimp only) <;> (try omega)) | refine zM ?_ | refine zW ?_ | intro _ | exact zF | refine Fin.pure ?_ | refine Br.tt ?_ | refine Br.ff ?_ | (refine Br.mk (fun h => ?_) (fun h => ?_) <;> (try simp only [sh] at h) <;> try first | (exfalso; omega) | exact absurd trivial h | (simp at h; done)) | refine zA ?_ | refine zN ?_ | refine zO ?_ | refine zP ?_ | refine zB ?_ | refine zL ent61 c1 ?_ | refine zG ent61 (fun h => c1) ?_ | refine lB ?_ | refine lBA ?_ | refine nR ?_ | refine iR ?_ | refine lR ?_ | refine lR0 ?_ | refine lRA ?_ | refine zK ?_ | refine s1 ?_ | refine sA ?_ | refine LK.bsl rfl rfl rfl rfl ?_ | (refine LK.frzR 0 rfl ?_ <;> refine pF ?_) | refine pA ?_ | refine sR ?_ | refine zC ?_ | fail))
    · rw [hft, List.map_append, ← map_ed1 (by assumption)]; exact Qs
    · rw [hft, show ed1 _ = [] from if_neg (by simp_all), List.append_nil]; exact Qs
  · repeat' ((conv => whnf) <;> (first | refine zM ?_ | refine zW ?_ | intro _ | exact zF | refine Fin.pure ?_ | refine Br.tt ?_ | refine Br.ff ?_ | (refine Br.mk (fun h => ?_) (fun h => ?_) <;> (try simp only [sh] at h) <;> try first | (exfalso; omega) | exact absurd trivial h | (simp at h; done)) | refine zA ?_ | refine zN ?_ | refine zO ?_ | refine zP ?_ | refine zB ?_ | refine lB ?_ | refine lBA ?_ | refine nR ?_ | refine iR ?_ | refine lR ?_ | refine lR0 ?_ | refine lRA ?_ | refine zK ?_ | refine s1 ?_ | refine sA ?_ | refine LK.bsl rfl rfl rfl rfl ?_ | (refine LK.frzR 0 rfl ?_ <;> refine pF ?_) | refine pA ?_ | refine sR ?_ | refine zC ?_ | fail))
    (conv => whnf); refine CK.loop [5, 9, 30, 31, 32, 33, 34, 35, 36, 37, 38, 39, 40, 41, 42, 43, 44, 45] (σ := Nat × Value) (fun s => s.1 ≤ b.length) (fun ⟨k, v⟩ => [(5, .v v), (30, I k)]) (fun ⟨k, v⟩ => [.row v 82 3 0 false ((a.flatMap ed1 ++ (b.take k).flatMap ed2).map eav)]) (fun s => b.length - s.1) (0, v) (Nat.zero_le _) Qy (by rw [show k = a.length by omega]; simp only [List.take_length, List.take_zero, List.flatMap_nil, List.append_nil]; exact Qs) ?_
    conv => whnf
    rintro ⟨k, v⟩ hk
    simp only at hk
    have hba := (ed_small a).1
    by_cases hlt : k < b.length
    · have c1 := proper_ok (b.getD k default)
      have hb1 := (ed_small (b.take k)).2.1
      rw [List.length_take] at hb1
      have hft := flat_tk (f := ed2) hlt
      repeat' ((conv => whnf) <;> (first | (refine Nxt.of ((k + 1, _)) [5, 9, 30, 31, 32, 33, 34, 35, 36, 37, 38, 39, 40, 41, 42, 43, 44, 45] Qr Qr Qr ?_ ?_ Qy ?_ <;> (try dsimp only) <;> (try omega)) | refine zM ?_ | refine zW ?_ | intro _ | exact zF | refine Fin.pure ?_ | refine Br.tt ?_ | refine Br.ff ?_ | (refine Br.mk (fun h => ?_) (fun h => ?_) <;> (try simp only [sh] at h) <;> try first | (exfalso; omega) | exact absurd trivial h | (simp at h; done)) | refine zA ?_ | refine zN ?_ | refine zO ?_ | refine zP ?_ | refine zB ?_ | refine zL ent61 c1 ?_ | refine zG ent61 (fun h => c1) ?_ | refine lB ?_ | refine lBA ?_ | refine nR ?_ | refine iR ?_ | refine lR ?_ | refine lR0 ?_ | refine lRA ?_ | refine zK ?_ | refine s1 ?_ | refine sA ?_ | refine LK.bsl rfl rfl rfl rfl ?_ | (refine LK.frzR 0 rfl ?_ <;> refine pF ?_) | refine pA ?_ | refine sR ?_ | refine zC ?_ | fail))
      · rw [hft, ← List.append_assoc, List.map_append (l₁ := a.flatMap ed1 ++ _), ← map_ed2 (by assumption)]; exact Qs
      · rw [hft, show ed2 _ = [] from if_neg (by simp_all), List.append_nil]; exact Qs
    · have ht : b.take k = b := List.take_of_length_le (by omega)
      have hl9 : (a.flatMap ed1 ++ b.flatMap ed2).length < 4611686018427387904 := by
        have h1 := (ed_small b).2.1
        rw [List.length_append]
        omega
      repeat' ((conv => whnf) <;> (first | refine zM ?_ | refine zW ?_ | intro _ | exact zF | refine Br.tt ?_ | refine Br.ff ?_ | (refine Br.mk (fun h => ?_) (fun h => ?_) <;> (try simp only [sh] at h) <;> try first | (exfalso; omega) | exact absurd trivial h | (simp at h; done)) | refine zA ?_ | refine zN ?_ | refine zO ?_ | refine zP ?_ | refine zB ?_ | (refine LK.callL ent62 (sortBy_ok (dl := a.flatMap ed1 ++ (b.take k).flatMap ed2) ent63 edges1_ok 0 rfl (by rw [ht]; exact hl9)) rfl rfl Ql (fun _ _ hcall => ?_) <;> obtain ⟨rfl, d', h1, h2, rfl⟩ := hcall) | refine lB ?_ | refine lBA ?_ | refine nR ?_ | refine iR ?_ | refine lR ?_ | refine lR0 ?_ | refine lRA ?_ | refine zK ?_ | refine s1 ?_ | refine sA ?_ | refine LK.bsl rfl rfl rfl rfl ?_ | (refine LK.frzR 0 rfl ?_ <;> refine pF ?_) | refine pA ?_ | refine sR ?_ | refine zC ?_ | fail))
      conv => whnf
      refine Fin.frzR 0 rfl ?_
      refine Fin.see (Sb.row 0 rfl) ?_
      rw [ht] at h1
      exact .out [] (List.nil_sublist _) ⟨rfl, d', rfl, eds_spec h1 h2 hab⟩
theorem sw_cons (bel : Bool → Bool → Bool) (f s : Int) (op : Bool) (st : Int) (e : Ed) (es : List Ed) : sw bel f s op st (e :: es) = if hd? es = some e.at_ then sw bel (f + e.d1) (s + e.d2) op st es else if bel (decide (0 < f + e.d1)) (decide (0 < s + e.d2)) = op then sw bel (f + e.d1) (s + e.d2) op st es else (if op = true then [(st, e.at_)] else []) ++ sw bel (f + e.d1) (s + e.d2) (bel (decide (0 < f + e.d1)) (decide (0 < s + e.d2))) e.at_ es := rfl
theorem drop_getD {es : List Ed} {k : Nat} (h : k < es.length) : es.drop k = es.getD k default :: es.drop (k + 1) := by
  rw [List.drop_eq_getElem_cons h]
  simp [List.getD, h]
theorem hd_getD {es : List Ed} {k : Nat} (h : k < es.length) : hd? (es.drop k) = some (es.getD k default).at_ := by rw [drop_getD h]; rfl
theorem hd_drop_nil {es : List Ed} {k : Nat} (h : es.length ≤ k) : hd? (es.drop k) = none := by rw [List.drop_eq_nil_of_le h]; rfl
structure SwS where
  k : Nat
  f : Int
  s : Int
  op : Bool
  st : Int
  v : Value
  acc : List Sp
set_option maxHeartbeats 4000000 in
theorem sweep_ok (a b : List Sp) (hab : a.length + b.length ≤ 1000000000) (bf : FuncId) (bel : Bool → Bool → Bool) (hent : EntersT Try.prog bf) (hbf : ∀ x y, FnA Try.prog bf [B x, B y] (B (bel x y))) :
    FnE Try.prog 51 [.sl 2 (a.map spav), .sl 2 (b.map spav), .fn (.func bf) []] fun r E => E = [] ∧ ∃ es : List Ed, r = .sl 2 ((sw bel 0 0 false 0 es).map spav) ∧ ∃ lb, Asc lb es ∧ t1 es = 0 ∧ t2 es = 0 ∧ ∀ x, (0 < c1 x es ↔ inS (a.filter prp) x) ∧ (0 < c2 x es ↔ inS (b.filter prp) x) := by
  have hE := edges_ok a b hab
  refine fn_run (T := tab) Try.func51 rfl Try.ntmps51 rfl Try.results51 (fun _ => ?_)
  repeat' ((conv => whnf) <;> (first | refine zM ?_ | refine zW ?_ | intro _ | exact zF | refine Fin.pure ?_ | refine Br.tt ?_ | refine Br.ff ?_ | (refine Br.mk (fun h => ?_) (fun h => ?_) <;> (try simp only [sh] at h) <;> try first | (exfalso; omega) | exact absurd trivial h | (simp at h; done)) | refine zA ?_ | refine zN ?_ | refine zO ?_ | refine zP ?_ | refine zB ?_ | (refine LK.call ent57 (hE) rfl rfl Ql (fun _ _ hcall => ?_) <;> obtain ⟨rfl, es, rfl, hlen, hd, hrest⟩ := hcall) | refine lB ?_ | refine lBA ?_ | refine nR ?_ | refine iR ?_ | refine lR ?_ | refine lR0 ?_ | refine lRA ?_ | refine zK ?_ | refine s1 ?_ | refine sA ?_ | refine LK.bsl rfl rfl rfl rfl ?_ | (refine LK.frzR 0 rfl ?_ <;> refine pF ?_) | refine pA ?_ | refine sR ?_ | refine zC ?_ | fail))
  have hl : (es.map eav).length = es.length := by simp
  conv => whnf
  refine CK.nilrow 50 2 ?_
  (conv => whnf); refine CK.loop [8, 9, 10, 11, 12, 13, 14, 15, 21, 22, 23, 24, 25, 26, 27, 28, 29, 30, 31, 32, 33, 34, 35, 36, 37, 38, 39, 40, 41, 42, 43, 44, 45, 46, 47, 48, 49, 50, 51, 52, 53, 54, 55, 56, 57, 58, 59, 60, 61, 62, 63, 64, 65, 66, 67, 68, 69, 70] (σ := SwS) (fun q => q.k ≤ es.length ∧ -q.k ≤ q.f ∧ q.f ≤ q.k ∧ -q.k ≤ q.s ∧ q.s ≤ q.k ∧ q.acc.length ≤ q.k ∧ sw bel 0 0 false 0 es = q.acc ++ sw bel q.f q.s q.op q.st (es.drop q.k)) (fun ⟨k, f, s, op, st, v, _⟩ => [(21, I k), (9, I f), (10, I s), (11, B op), (12, I st), (8, .v v)]) (fun ⟨_, _, _, _, _, v, acc⟩ => [.row v 50 2 0 false (acc.map spav)]) (fun q => es.length - q.k) ⟨0, 0, 0, false, 0, .slice none 0 0, []⟩ ⟨by simp, by simp, by simp, by simp, by simp, by simp, rfl⟩ Qy Qs ?_
  conv => whnf
  rintro ⟨k, f, s, op, st, v, acc⟩ ⟨i1, i2, i3, i4, i5, i6, i7⟩
  simp only at i1 i2 i3 i4 i5 i6 i7
  have hla : (acc.map spav).length = acc.length := by simp
  by_cases hlt : k < es.length
  · have hde := hd (es.getD k default) (by simp [List.getD, hlt])
    rw [drop_getD hlt, sw_cons] at i7
    have hh : hd? (es.drop (k + 1)) = if k + 1 < es.length then some (es.getD (k + 1) default).at_ else none := by
      by_cases h2 : k + 1 < es.length
      · rw [if_pos h2, hd_getD h2]
      · rw [if_neg h2, hd_drop_nil (by omega)]
    rw [hh] at i7
    repeat' ((conv => whnf) <;> (first | refine LK.callC hent rfl (Sb.refl _) rfl (SbL.refl _) (hbf _ _) ?_ | refine zM ?_ | refine zW ?_ | intro _ | exact zF | refine Fin.pure ?_ | refine Br.tt ?_ | refine Br.ff ?_ | (refine Br.mk (fun h => ?_) (fun h => ?_) <;> (try simp only [sh] at h) <;> try first | (exfalso; omega) | exact absurd trivial h | (simp at h; done)) | refine zA ?_ | refine zN ?_ | refine zO ?_ | refine zP ?_ | refine zB ?_ | refine lB ?_ | refine lBA ?_ | refine nR ?_ | refine iR ?_ | refine lR ?_ | refine lR0 ?_ | refine lRA ?_ | refine zK ?_ | refine s1 ?_ | refine sA ?_ | refine LK.bsl rfl rfl rfl rfl ?_ | (refine LK.frzR 0 rfl ?_ <;> refine pF ?_) | refine pA ?_ | refine sR ?_ | refine zC ?_ | fail))
    · (conv => whnf); (refine Nxt.of (⟨k + 1, f + (es.getD k default).d1, s + (es.getD k default).d2, op, st, v, acc⟩) [8, 9, 10, 11, 12, 13, 14, 15, 21, 22, 23, 24, 25, 26, 27, 28, 29, 30, 31, 32, 33, 34, 35, 36, 37, 38, 39, 40, 41, 42, 43, 44, 45, 46, 47, 48, 49, 50, 51, 52, 53, 54, 55, 56, 57, 58, 59, 60, 61, 62, 63, 64, 65, 66, 67, 68, 69, 70] Qr Qr Qr ?_ ?_ Qy Qs <;> (try dsimp only) <;> (try omega))
      refine ⟨by omega, by omega, by omega, by omega, by omega, by omega, ?_⟩
      rw [i7, if_pos (by rw [if_pos (by omega), h.2])]
    · (conv => whnf); (refine Nxt.of (⟨k + 1, f + (es.getD k default).d1, s + (es.getD k default).d2, op, st, v, acc⟩) [8, 9, 10, 11, 12, 13, 14, 15, 21, 22, 23, 24, 25, 26, 27, 28, 29, 30, 31, 32, 33, 34, 35, 36, 37, 38, 39, 40, 41, 42, 43, 44, 45, 46, 47, 48, 49, 50, 51, 52, 53, 54, 55, 56, 57, 58, 59, 60, 61, 62, 63, 64, 65, 66, 67, 68, 69, 70] Qr Qr Qr ?_ ?_ Qy Qs <;> (try dsimp only) <;> (try omega))
      refine ⟨by omega, by omega, by omega, by omega, by omega, by omega, ?_⟩
      rw [i7, if_neg (by grind), if_pos h]
    · (conv => whnf); (refine Nxt.of (⟨k + 1, f + (es.getD k default).d1, s + (es.getD k default).d2, bel (decide (0 < f + (es.getD k default).d1)) (decide (0 < s + (es.getD k default).d2)), (es.getD k default).at_, _, acc ++ [(st, (es.getD k default).at_)]⟩) [8, 9, 10, 11, 12, 13, 14, 15, 21, 22, 23, 24, 25, 26, 27, 28, 29, 30, 31, 32, 33, 34, 35, 36, 37, 38, 39, 40, 41, 42, 43, 44, 45, 46, 47, 48, 49, 50, 51, 52, 53, 54, 55, 56, 57, 58, 59, 60, 61, 62, 63, 64, 65, 66, 67, 68, 69, 70] Qr Qr Qr ?_ ?_ Qy ?_ <;> (try dsimp only) <;> (try omega))
      · refine ⟨by omega, by omega, by omega, by omega, by omega, by simp; omega, ?_⟩
        rw [i7, if_neg (by grind), if_neg (by assumption), if_pos h, List.append_assoc]
      · rw [List.map_append]; exact Qs
    · (conv => whnf); (refine Nxt.of (⟨k + 1, f + (es.getD k default).d1, s + (es.getD k default).d2, bel (decide (0 < f + (es.getD k default).d1)) (decide (0 < s + (es.getD k default).d2)), (es.getD k default).at_, v, acc⟩) [8, 9, 10, 11, 12, 13, 14, 15, 21, 22, 23, 24, 25, 26, 27, 28, 29, 30, 31, 32, 33, 34, 35, 36, 37, 38, 39, 40, 41, 42, 43, 44, 45, 46, 47, 48, 49, 50, 51, 52, 53, 54, 55, 56, 57, 58, 59, 60, 61, 62, 63, 64, 65, 66, 67, 68, 69, 70] Qr Qr Qr ?_ ?_ Qy Qs <;> (try dsimp only) <;> (try omega))
      refine ⟨by omega, by omega, by omega, by omega, by omega, by omega, ?_⟩
      rw [i7, if_neg (by grind), if_neg (by assumption), if_neg (by rw [h]; simp), List.nil_append]
  · repeat' ((conv => whnf) <;> (first | refine zM ?_ | refine zW ?_ | intro _ | exact zF | refine Br.tt ?_ | refine Br.ff ?_ | (refine Br.mk (fun h => ?_) (fun h => ?_) <;> (try simp only [sh] at h) <;> try first | (exfalso; omega) | exact absurd trivial h | (simp at h; done)) | refine zA ?_ | refine zN ?_ | refine zO ?_ | refine zP ?_ | refine zB ?_ | refine lB ?_ | refine lBA ?_ | refine nR ?_ | refine iR ?_ | refine lR ?_ | refine lR0 ?_ | refine lRA ?_ | refine zK ?_ | refine s1 ?_ | refine sA ?_ | refine LK.bsl rfl rfl rfl rfl ?_ | (refine LK.frzR 0 rfl ?_ <;> refine pF ?_) | refine pA ?_ | refine sR ?_ | refine zC ?_ | fail))
    conv => whnf
    rw [List.drop_eq_nil_of_le (by omega), sw, List.append_nil] at i7
    exact Fin.frzR 0 rfl (Fin.see (Sb.row 0 rfl) (.out [] (List.nil_sublist _) ⟨rfl, es, by rw [i7], hrest⟩))
theorem asc_self {lb : Int} {e : Ed} {es : List Ed} (h : Asc lb (e :: es)) : Asc e.at_ (e :: es) := by
  unfold Asc at h ⊢
  exact ⟨Int.le_refl _, h.2⟩
theorem sNormal1_ok (x y : Bool) : FnA Try.prog 52 [B x, B y] (B x) := by
  refine fn_run (T := tab) Try.func52 rfl Try.ntmps52 rfl Try.results52 (fun _ => ?_)
  repeat' ((conv => whnf) <;> (first | refine zM ?_ | refine zW ?_ | intro _ | exact zF | refine Fin.pure ?_ | refine Br.tt ?_ | refine Br.ff ?_ | (refine Br.mk (fun h => ?_) (fun h => ?_) <;> (try simp only [sh] at h) <;> try first | (exfalso; omega) | exact absurd trivial h | (simp at h; done)) | refine zA ?_ | refine zN ?_ | refine zO ?_ | refine zP ?_ | refine zB ?_ | refine zK ?_ | refine zC ?_ | fail))
/-- the normal form -/
theorem sNormal_ok (a : List Sp) (ha : a.length ≤ 1000000000) : FnA Try.prog 39 [.sl 2 (a.map spav)] (.sl 2 ((nrm a).map spav)) := by
  have hc := (sweep_ok a [] (by simpa using ha) 52 (fun x _ => x) ent52 sNormal1_ok).mono (Ψ := Is (.sl 2 ((nrm a).map spav))) (by
    rintro r E ⟨rfl, es, rfl, lb, h1, h2, h3, h4⟩
    obtain ⟨m1, m2⟩ := sw_spec (fun x _ => x) rfl es 0 0 false 0 lb h1 (by omega) (by omega) (fun _ => rfl) (fun h => by cases h)
    refine ⟨?_, rfl⟩
    rw [← nrm_uniq (l := a) (r := sw (fun x _ => x) 0 0 false 0 es) (lb := match hd? es with | some a => a - 1 | none => 0) (m2 _ (fun h => by cases h) (fun a ha => by simp only [ha]; omega)) (fun x => by
      rw [m1, ← (h4 x).1]
      unfold stat
      cases hh : hd? es with
      | none =>
        have : es = [] := by cases es with | nil => rfl | cons e es => simp [hd?] at hh
        subst this
        simp [c1]
      | some q =>
        by_cases hx : x < q
        · simp only [hx, if_true]
          have : c1 x es = 0 := by
            cases es with
            | nil => rfl
            | cons e es =>
              simp only [hd?, Option.some.injEq] at hh
              exact (c1_low (asc_self h1) (by omega)).1
          rw [this]; simp
        · simp only [hx, if_false, Int.zero_add, decide_eq_true_eq])])
  refine fn_run (T := tab) Try.func39 rfl Try.ntmps39 rfl Try.results39 (fun _ => ?_)
  repeat' ((conv => whnf) <;> (first | refine zM ?_ | refine zW ?_ | intro _ | exact zF | refine Fin.pure ?_ | refine Br.tt ?_ | refine Br.ff ?_ | (refine Br.mk (fun h => ?_) (fun h => ?_) <;> (try simp only [sh] at h) <;> try first | (exfalso; omega) | exact absurd trivial h | (simp at h; done)) | refine zA ?_ | refine zN ?_ | refine zO ?_ | refine zP ?_ | refine zB ?_ | refine zL ent51 hc ?_ | refine zG ent51 (fun h => hc) ?_ | refine lB ?_ | refine lBA ?_ | refine zK ?_ | refine s1 ?_ | refine sA ?_ | refine zC ?_ | fail))
end Go.Proofs.Ytnekeokgognegaa
