/-
  Walks: package piecewise: sorted, stretches, both, checked, Add.
  Conditions: those of each theorem.
-/
import Derived.Test.YtnekeokgognegaaU1
import Derived.Test.YtnekeokgognegaaUA
import Derived.Test.YtnekeokgognegaaSN
import Derived.Test.YtnekeokgognegaaSh2
namespace Go.E2
/-- a region of open order whose last operations begin with a yield -/
theorem CK.anyYK {P : Program} {T : Tr} [hT : TabOK P T] {c : Ctx} {m : Nat} {ro : Option Nat} {K : KT} {ds : List Deferred} {F : Fr} {L : List Ent} {id : Nat} {ops : Array Oper} (p : Nat) (hB : anyB ops p = true)
    (h : wpo P T c ⟨m, ds, ro⟩ ops L (fun F => YK P c ⟨m, ds, ro⟩ ops (fun F L => K ds .normal F L) (ops.toList.drop p) F L) (ops.toList.take p) F) : CK P T c m ro (.region id ops true) K ds F L := by
  simp only [anyB, Bool.and_eq_true] at hB
  obtain ⟨⟨⟨⟨h1, h2⟩, h3⟩, h4⟩, h5⟩ := hB
  refine ⟨fun Q hQ => ?_⟩
  obtain ⟨F', h6, h7⟩ := wpo_out h
  have e : ops.toList.toArray = ops := Array.toArray_toList
  have := Cx.anyY (P := P) (c := c) (n := ⟨m, ds, ro⟩) (Q := Q) (F := F) (L := L) (id := id) (l := ops.toList) p hT.fol rfl h1 h2 (by rw [e]; exact h3) (by rw [e]; exact h4) (by rw [e]; exact h5) (by
    rw [e]
    exact ⟨F', h6, h7.out Q fun F L hk => hQ _ _ _ _ hk⟩)
  rwa [e] at this
end Go.E2
namespace Go.Proofs.Ytnekeokgognegaa
open Go.E2 Go.Wage
theorem set_self {L : List Ent} {i : Nat} {e : Ent} (h : L[i]? = some e) : L = L.set i e := by
  apply List.ext_getElem?
  intro j
  rw [List.getElem?_set]
  split
  · rename_i e'
    subst e'
    have := (List.getElem?_eq_some_iff.1 h).1
    rw [if_pos this, h]
  · rfl
theorem sortInt_ok {c : Ctx} {L : List Ent} {v : Value} {t : TypeId} {zs : List Int} (i : Nat) (hi : L[i]? = some (.row v t 1 0 false (zs.map I))) (hlen : zs.length ≤ 1000000000) :
    FnL Try.prog c 55 [.v v] L fun r L' => r = .tup [] ∧ L' = L.set i (.row v t 1 0 false ((zs.mergeSort fun x y => decide (x ≤ y)).map I)) := by
  by_cases hne : zs = []
  · subst hne
    refine (sortI_none (ρ := Try.sortI_ren) Try.sortI i hi).mono ?_
    rintro a L' ⟨rfl, rfl⟩
    exact ⟨rfl, by rw [List.mergeSort_nil]; exact set_self hi⟩
  · exact sortI_of (ρ := Try.sortI_ren) Try.sortI i hi hne (by omega)
theorem compactInt_ok {c : Ctx} {L : List Ent} {v : Value} {t : TypeId} {zs : List Int} (i : Nat) (hi : L[i]? = some (.row v t 1 0 false (zs.map I))) (hlen : zs.length ≤ 1000000000) :
    FnL Try.prog c 56 [.v v] L fun r L' => ∃ v', r = .v v' ∧ L' = L.set i (.row v' t 1 0 false ((Lib.compact zs).map I)) := by
  by_cases hne : zs = []
  · subst hne
    refine fnL_run (T := tab) Try.func56 rfl Try.ntmps56 rfl Try.results56 (fun _ hw0 => ?_)
    repeat' ((conv => whnf) <;> (first | refine Ask.lenR (T := tab) i rfl hi rfl ?_ | refine zM ?_ | refine zW ?_ | intro _ | exact zF | refine Br.tt ?_ | refine Br.ff ?_ | (refine Br.mk (fun h => ?_) (fun h => ?_) <;> (try simp only [sh] at h) <;> try first | (exfalso; omega) | exact absurd trivial h | (simp at h; done)) | refine zA ?_ | refine zN ?_ | refine zO ?_ | refine zP ?_ | refine zB ?_ | refine zK ?_ | refine zC ?_ | fail))
    conv => whnf
    exact .out _ (List.Sublist.refl _) ⟨_, rfl, set_self hi⟩
  · exact compactI_of (ρ := Try.compactI_ren) Try.compactI i hi hne (by omega)
theorem one_ints (zs : List Int) : ((zs.map I).flatMap AV.cells).all AV.one = true := by
  induction zs with
  | nil => rfl
  | cons z zs ih => rw [List.map_cons, List.flatMap_cons, List.all_append, ih]; rfl
theorem clone_ok (zs : List Int) (hlen : zs.length ≤ 1000000000) : FnE Try.prog 54 [.sl 1 (zs.map I)] fun r E => ∃ v, r = .v v ∧ E = [.row v 3 1 0 false (zs.map I)] := by
  have hl : (zs.map I).length = zs.length := by simp
  have h1 := one_ints zs
  refine fn_run (T := tab) Try.func54 rfl Try.ntmps54 rfl Try.results54 (fun _ => ?_)
  repeat' ((conv => whnf) <;> (first | refine LK.app 0 rfl rfl rfl rfl rfl Qb h1 Qo ?_ | refine LK.nilB rfl rfl (fun b hb => ?_) | refine zM ?_ | refine zW ?_ | intro _ | exact zF | refine Br.tt ?_ | refine Br.ff ?_ | (refine Br.mk (fun h => ?_) (fun h => ?_) <;> (try simp only [sh] at h) <;> try first | (exfalso; omega) | exact absurd trivial h | (simp at h; done)) | refine zA ?_ | refine zN ?_ | refine zO ?_ | refine zP ?_ | refine zB ?_ | refine lB ?_ | refine lBA ?_ | refine rA ?_ | refine r1 ?_ | refine nR ?_ | refine iR ?_ | refine lR ?_ | refine lR0 ?_ | refine lRA ?_ | refine zK ?_ | refine s1 ?_ | refine sA ?_ | refine LK.bsl rfl rfl rfl rfl ?_ | (refine LK.frzR 0 rfl ?_ <;> refine pF ?_) | refine pA ?_ | refine sR ?_ | refine zC ?_ | fail))
  all_goals (conv => whnf)
  · have : zs = [] := by
      cases zs with
      | nil => rfl
      | cons f fs => rw [hb (by simp)] at h; cases h
    subst this
    exact .nilrow _ _ (.out _ (List.Sublist.refl _) ⟨_, rfl, rfl⟩)
  · exact .out _ (List.Sublist.refl _) ⟨_, rfl, rfl⟩
theorem pSorted_ok (zs : List Int) (hlen : zs.length ≤ 1000000000) : FnE Try.prog 47 [.sl 1 (zs.map I)] fun r E => ∃ v, r = .v v ∧ E = [.row v 3 1 0 false ((srtI zs).map I)] := by
  have c1 := clone_ok zs hlen
  have hlm : (zs.mergeSort fun x y => decide (x ≤ y)).length ≤ 1000000000 := by rw [List.length_mergeSort]; exact hlen
  refine fn_run (T := tab) Try.func47 rfl Try.ntmps47 rfl Try.results47 (fun _ => ?_)
  repeat' ((conv => whnf) <;> (first | refine zM ?_ | refine zW ?_ | intro _ | exact zF | refine Br.tt ?_ | refine Br.ff ?_ | (refine Br.mk (fun h => ?_) (fun h => ?_) <;> (try simp only [sh] at h) <;> try first | (exfalso; omega) | exact absurd trivial h | (simp at h; done)) | refine zA ?_ | refine zN ?_ | refine zO ?_ | refine zP ?_ | refine zB ?_ | (refine LK.call ent54 (c1) rfl rfl Ql (fun _ _ hcall => ?_) <;> obtain ⟨v, rfl, rfl⟩ := hcall) | (refine LK.callL ent55 (sortInt_ok (zs := zs) 0 rfl hlen) rfl rfl Ql (fun _ _ hcall => ?_) <;> obtain ⟨rfl, rfl⟩ := hcall) | (refine LK.callL ent56 (compactInt_ok (zs := zs.mergeSort fun x y => decide (x ≤ y)) 0 rfl hlm) rfl rfl Ql (fun _ _ hcall => ?_) <;> obtain ⟨v', rfl, rfl⟩ := hcall) | refine lB ?_ | refine lBA ?_ | refine rA ?_ | refine r1 ?_ | refine nR ?_ | refine iR ?_ | refine lR ?_ | refine lR0 ?_ | refine lRA ?_ | refine zK ?_ | refine s1 ?_ | refine sA ?_ | refine LK.bsl rfl rfl rfl rfl ?_ | (refine LK.frzR 0 rfl ?_ <;> refine pF ?_) | refine pA ?_ | refine sR ?_ | refine zC ?_ | fail))
  conv => whnf
  exact .out _ (by exact List.Sublist.refl _) ⟨_, rfl, rfl⟩
theorem pStr_ok (den den' : Int) (ps qs : List Pc) : FnA Try.prog 29 [fav den ps, fav den' qs] (.fn (.func 46) [.fp (favC den ps) 0, .fp (favC den' qs) 0]) := by
  refine fn_run (T := tab) Try.func29 rfl Try.ntmps29 rfl Try.results29 (fun _ => ?_)
  repeat' ((conv => whnf) <;> (first | refine zM ?_ | refine zW ?_ | intro _ | exact zF | refine Br.tt ?_ | refine Br.ff ?_ | (refine Br.mk (fun h => ?_) (fun h => ?_) <;> (try simp only [sh] at h) <;> try first | (exfalso; omega) | exact absurd trivial h | (simp at h; done)) | refine zA ?_ | refine zN ?_ | refine zO ?_ | refine zP ?_ | refine zB ?_ | refine lB ?_ | refine lBA ?_ | refine rA ?_ | refine r1 ?_ | refine zK ?_ | refine s1 ?_ | refine sA ?_ | refine zC ?_ | fail))
  conv => whnf
  refine Fin.frzB 0 rfl ?_
  refine Fin.frzB 1 rfl ?_
  refine Fin.see (Sb.fn (.cons (Sb.ptr 1 rfl) (.cons (Sb.ptr 0 rfl) .nil))) ?_
  exact .out _ (by exact List.nil_sublist _) ⟨rfl, rfl⟩
theorem pBoth_ok (den : Int) (ps qs : List Pc) (hp : validB den ps = true) (hq : validB den qs = true) : FnA Try.prog 28 [fav den ps, fav den qs] (I 0) := by
  have h1 := valid_parts hp
  have h2 := valid_parts hq
  have c1 := valid_ok den ps (by omega)
  have c2 := valid_ok den qs (by omega)
  rw [hp] at c1
  rw [hq] at c2
  refine fn_run (T := tab) Try.func28 rfl Try.ntmps28 rfl Try.results28 (fun _ => ?_)
  repeat' ((conv => whnf) <;> (first | refine zM ?_ | refine zW ?_ | intro _ | exact zF | refine Fin.pure ?_ | refine Br.tt ?_ | refine Br.ff ?_ | (refine Br.mk (fun h => ?_) (fun h => ?_) <;> (try simp only [sh] at h) <;> try first | (exfalso; omega) | exact absurd trivial h | (simp at h; done)) | refine zA ?_ | refine zN ?_ | refine zO ?_ | refine zP ?_ | refine zB ?_ | refine zL ent20 c1 ?_ | refine zG ent20 (fun h => c1) ?_ | refine zL ent20 c2 ?_ | refine zG ent20 (fun h => c2) ?_ | refine lB ?_ | refine lBA ?_ | refine rA ?_ | refine r1 ?_ | refine zK ?_ | refine s1 ?_ | refine sA ?_ | refine zC ?_ | exact True.intro | fail))
theorem pChecked_ok (den : Int) (ps : List Pc) (hlen : ps.length ≤ 9223372036854775807) : FnA Try.prog 31 [fav den ps] (.tup [fav (chkR den ps).1.1 (chkR den ps).1.2, I (chkR den ps).2]) := by
  have hl : (ps.map pav).length = ps.length := by simp
  have c1 := valid_ok den ps hlen
  unfold chkR
  by_cases h64 : 64 < ps.length
  · rw [if_pos h64]
    refine fn_run (T := tab) Try.func31 rfl Try.ntmps31 rfl Try.results31 (fun _ => ?_)
    repeat' ((conv => whnf) <;> (first | (refine LK.see 8 rfl (Sb.agg (.cons (.refl _) (.cons (Sb.nil (k := 3)) .nil))) ?_) | refine zM ?_ | refine zW ?_ | intro _ | exact zF | refine Fin.pure ?_ | refine Br.tt ?_ | refine Br.ff ?_ | (refine Br.mk (fun h => ?_) (fun h => ?_) <;> (try simp only [sh] at h) <;> try first | (exfalso; omega) | exact absurd trivial h | (simp at h; done)) | refine zA ?_ | refine zN ?_ | refine zO ?_ | refine zP ?_ | refine zB ?_ | refine lB ?_ | refine lBA ?_ | refine rA ?_ | refine r1 ?_ | refine zK ?_ | refine s1 ?_ | refine sA ?_ | refine zC ?_ | fail))
  · rw [if_neg h64]
    cases hv : validB den ps with
    | true =>
      rw [hv] at c1
      rw [if_pos rfl]
      refine fn_run (T := tab) Try.func31 rfl Try.ntmps31 rfl Try.results31 (fun _ => ?_)
      repeat' ((conv => whnf) <;> (first | refine zM ?_ | refine zW ?_ | intro _ | exact zF | refine Fin.pure ?_ | refine Br.tt ?_ | refine Br.ff ?_ | (refine Br.mk (fun h => ?_) (fun h => ?_) <;> (try simp only [sh] at h) <;> try first | (exfalso; omega) | exact absurd trivial h | (simp at h; done)) | refine zA ?_ | refine zN ?_ | refine zO ?_ | refine zP ?_ | refine zB ?_ | refine zL ent20 c1 ?_ | refine zG ent20 (fun h => c1) ?_ | refine lB ?_ | refine lBA ?_ | refine rA ?_ | refine r1 ?_ | refine zK ?_ | refine s1 ?_ | refine sA ?_ | refine zC ?_ | fail))
    | false =>
      rw [hv] at c1
      rw [if_neg (by simp)]
      refine fn_run (T := tab) Try.func31 rfl Try.ntmps31 rfl Try.results31 (fun _ => ?_)
      repeat' ((conv => whnf) <;> (first | (refine LK.see 12 rfl (Sb.agg (.cons (.refl _) (.cons (Sb.nil (k := 3)) .nil))) ?_) | refine zM ?_ | refine zW ?_ | intro _ | exact zF | refine Fin.pure ?_ | refine Br.tt ?_ | refine Br.ff ?_ | (refine Br.mk (fun h => ?_) (fun h => ?_) <;> (try simp only [sh] at h) <;> try first | (exfalso; omega) | exact absurd trivial h | (simp at h; done)) | refine zA ?_ | refine zN ?_ | refine zO ?_ | refine zP ?_ | refine zB ?_ | refine zL ent20 c1 ?_ | refine zG ent20 (fun h => c1) ?_ | refine lB ?_ | refine lBA ?_ | refine rA ?_ | refine r1 ?_ | refine zK ?_ | refine s1 ?_ | refine sA ?_ | refine zC ?_ | fail))
theorem fr_take {ps : List Pc} {k : Nat} (h : k < ps.length) : (ps.map Pc.frm).take (k + 1) = (ps.map Pc.frm).take k ++ [(ps.getD k default).frm] := by
  rw [List.take_succ_eq_append_getElem (by simpa using h), List.getElem_map]
  simp [List.getD, h]
set_option maxRecDepth 4000 in
set_option maxHeartbeats 8000000 in
theorem pStr1_iter (den den' : Int) (ps qs : List Pc) (hps : 1 ≤ ps.length ∧ ps.length ≤ 64) (hqs : qs.length ≤ 64) : IterN Try.prog 46 [.fp (favC den ps) 0, .fp (favC den' qs) 0] ((spsR ps qs).map fun s => [spav s]) [] := by
  refine ⟨fun c lp Iv S hy L hI => ?_⟩
  have hl : (ps.map pav).length = ps.length := by simp
  have hl' : (qs.map pav).length = qs.length := by simp
  have hlf : (ps.map Pc.frm).length = ps.length := by simp
  have hlg : (qs.map Pc.frm).length = qs.length := by simp
  refine fnL_runY (T := tab) Try.func46 rfl Try.ntmps46 rfl Try.results46 (fun c1 hw0 hle0 => ?_)
  repeat' ((conv => whnf) <;> (first | refine zM ?_ | refine zW ?_ | intro _ | exact zF | refine Br.tt ?_ | refine Br.ff ?_ | (refine Br.mk (fun h => ?_) (fun h => ?_) <;> (try simp only [sh] at h) <;> try first | (exfalso; omega) | exact absurd trivial h | (simp at h; done)) | refine zA ?_ | refine zN ?_ | refine zO ?_ | refine zP ?_ | refine zB ?_ | refine lB ?_ | refine lBA ?_ | refine rA ?_ | refine r1 ?_ | refine zK ?_ | refine s1 ?_ | refine sA ?_ | refine zC ?_ | fail))
  conv => whnf
  refine CK.nilrow 3 1 ?_
  (conv => whnf); refine CK.loopY [4, 6, 13, 14, 15, 16, 17, 18, 19, 20, 21, 22] (σ := Nat × Value) (fun s => s.1 ≤ ps.length) (fun ⟨k, v⟩ => [(13, I k), (4, .v v)]) (fun ⟨k, v⟩ => .row v 3 1 0 false (((ps.map Pc.frm).take k).map I) :: L) (fun s => ps.length - s.1) (0, .slice none 0 0) (Nat.zero_le _) Qy (List.Sublist.refl _) ?_
  conv => whnf
  rintro ⟨k, v⟩ hk
  simp only at hk
  have hlt : (((ps.map Pc.frm).take k).map I).length ≤ 64 := by rw [List.length_map, List.length_take]; omega
  by_cases hkl : k < ps.length
  · repeat' ((conv => whnf) <;> (first | refine zM ?_ | refine zW ?_ | intro _ | exact zF | refine Br.tt ?_ | refine Br.ff ?_ | (refine Br.mk (fun h => ?_) (fun h => ?_) <;> (try simp only [sh] at h) <;> try first | (exfalso; omega) | exact absurd trivial h | (simp at h; done)) | refine zA ?_ | refine zN ?_ | refine zO ?_ | refine zP ?_ | refine zB ?_ | refine lB ?_ | refine lBA ?_ | refine rA ?_ | refine r1 ?_ | refine zK ?_ | refine s1 ?_ | refine sA ?_ | refine pS ?_ | refine LK.gr (Gr.bslV rfl rfl rfl rfl) ?_ | refine Ask.of (Gr.bslV rfl rfl rfl rfl) ?_ | refine zC ?_ | refine zD ?_ | fail))
    rename_i A q cp
    (conv => whnf); (refine Nxt.of ((k + 1, Value.slice A q cp)) [4, 6, 13, 14, 15, 16, 17, 18, 19, 20, 21, 22] Qr Qr Qr ?_ ?_ Qy ?_ <;> (try dsimp only) <;> (try omega))
    rw [fr_take hkl, List.map_append]
    exact Qs
  · obtain rfl : k = ps.length := by omega
    have htk : (ps.map Pc.frm).take ps.length = ps.map Pc.frm := List.take_of_length_le (by omega)
    rw [htk] at hlt
    dsimp only
    rw [htk]
    repeat' ((conv => whnf) <;> (first | refine zM ?_ | refine zW ?_ | intro _ | exact zF | refine Br.tt ?_ | refine Br.ff ?_ | (refine Br.mk (fun h => ?_) (fun h => ?_) <;> (try simp only [sh] at h) <;> try first | (exfalso; omega) | exact absurd trivial h | (simp at h; done)) | refine zA ?_ | refine zN ?_ | refine zO ?_ | refine zP ?_ | refine zB ?_ | refine lB ?_ | refine lBA ?_ | refine rA ?_ | refine r1 ?_ | refine zK ?_ | refine s1 ?_ | refine sA ?_ | refine zC ?_ | fail))
    (conv => whnf); refine CK.loopY [4, 8, 26, 27, 28, 29, 30, 31, 32, 33, 34, 35] (σ := Nat × Value) (fun s => s.1 ≤ qs.length) (fun ⟨k, v⟩ => [(26, I k), (4, .v v)]) (fun ⟨k, v⟩ => .row v 3 1 0 false ((ps.map Pc.frm ++ (qs.map Pc.frm).take k).map I) :: L) (fun s => qs.length - s.1) (0, v) (Nat.zero_le _) Qy (by dsimp only; rw [List.take_zero, List.append_nil]; exact List.Sublist.refl _) ?_
    conv => whnf
    rintro ⟨k, v⟩ hk
    simp only at hk
    have hlt : ((ps.map Pc.frm ++ (qs.map Pc.frm).take k).map I).length ≤ 128 := by rw [List.length_map, List.length_append, List.length_take]; omega
    by_cases hkl : k < qs.length
    · repeat' ((conv => whnf) <;> (first | refine zM ?_ | refine zW ?_ | intro _ | exact zF | refine Br.tt ?_ | refine Br.ff ?_ | (refine Br.mk (fun h => ?_) (fun h => ?_) <;> (try simp only [sh] at h) <;> try first | (exfalso; omega) | exact absurd trivial h | (simp at h; done)) | refine zA ?_ | refine zN ?_ | refine zO ?_ | refine zP ?_ | refine zB ?_ | refine lB ?_ | refine lBA ?_ | refine rA ?_ | refine r1 ?_ | refine zK ?_ | refine s1 ?_ | refine sA ?_ | refine pS ?_ | refine LK.gr (Gr.bslV rfl rfl rfl rfl) ?_ | refine Ask.of (Gr.bslV rfl rfl rfl rfl) ?_ | refine zC ?_ | refine zD ?_ | fail))
      rename_i A q cp
      (conv => whnf); (refine Nxt.of ((k + 1, Value.slice A q cp)) [4, 8, 26, 27, 28, 29, 30, 31, 32, 33, 34, 35] Qr Qr Qr ?_ ?_ Qy ?_ <;> (try dsimp only) <;> (try omega))
      rw [fr_take hkl, ← List.append_assoc, List.map_append]
      exact Qs
    · obtain rfl : k = qs.length := by omega
      have htq : (qs.map Pc.frm).take qs.length = qs.map Pc.frm := List.take_of_length_le (by omega)
      rw [htq] at hlt
      dsimp only
      rw [htq]
      have cs := pSorted_ok (ps.map Pc.frm ++ qs.map Pc.frm) (by rw [List.length_append]; omega)
      have hSl := starts_len (ps := ps) (qs := qs)
      change FnE _ _ _ (fun r E => ∃ v, r = .v v ∧ E = [.row v 3 1 0 false ((startsR ps qs).map I)]) at cs
      have hspl := sps_len ps qs
      unfold spsR at hy ⊢ hspl
      generalize startsR ps qs = SS at *
      have hSm : (SS.map I).length = SS.length := by simp
      have hSn : (SS.map I ++ [AV.v (.int .i64 1000000000001)]).length = SS.length + 1 := by simp
      repeat' ((conv => whnf) <;> (first | refine nR (T := tab) ?_ | (refine LK.frzR 0 rfl ?_ <;> refine LK.see 36 rfl (Sb.row 0 rfl) ?_ <;> refine LK.call ent47 cs rfl rfl Ql (fun _ _ hcall => ?_) <;> obtain ⟨v2, rfl, rfl⟩ := hcall) | refine zM ?_ | refine zW ?_ | intro _ | exact zF | refine Br.tt ?_ | refine Br.ff ?_ | (refine Br.mk (fun h => ?_) (fun h => ?_) <;> (try simp only [sh] at h) <;> try first | (exfalso; omega) | exact absurd trivial h | (simp at h; done)) | refine zA ?_ | refine zN ?_ | refine zO ?_ | refine zP ?_ | refine zB ?_ | refine lB ?_ | refine lBA ?_ | refine rA ?_ | refine r1 ?_ | refine zK ?_ | refine s1 ?_ | refine sA ?_ | refine pS ?_ | refine LK.gr (Gr.bslV rfl rfl rfl rfl) ?_ | refine Ask.of (Gr.bslV rfl rfl rfl rfl) ?_ | refine zC ?_ | refine zD ?_ | fail))
      rename_i A q cp
      have eE : SS.map I ++ [AV.v (.int .i64 1000000000001)] = (SS ++ [1000000000001]).map I := by simp
      have hEl : (SS ++ [1000000000001]).length = SS.length + 1 := by simp
      have hEm : ((SS ++ [1000000000001]).map I).length = SS.length + 1 := by simp
      (conv => whnf); refine CK.loopY [9, 43, 44, 45, 46, 47, 48, 49, 50, 51, 52, 53, 54, 55, 56, 57, 58, 59] (σ := Nat × List Ent) (fun s => s.1 ≤ SS.length ∧ Iv s.1 s.2) (fun ⟨j, _⟩ => [(43, I j)]) (fun ⟨_, L1⟩ => .row (.slice A q cp) 3 1 0 false ((SS ++ [1000000000001]).map I) :: L1) (fun s => SS.length - s.1) (0, L) ⟨Nat.zero_le _, hI⟩ Qy (by dsimp only; rw [← eE]; exact Qs) ?_
      conv => whnf
      rintro ⟨j, L1⟩ ⟨j1, j2⟩
      simp only at j1 j2
      by_cases hj : j < SS.length
      · have hx : ((prs (SS ++ [1000000000001])).map fun s => [spav s])[j]? = some [spav ((SS ++ [1000000000001]).getD (j : Int).toNat default, (SS ++ [1000000000001]).getD ((j : Int) + 1).toNat default)] := by
          rw [List.getElem?_map, Int.toNat_natCast, show ((j : Int) + 1).toNat = j + 1 by omega, prs_get (gAtD (by omega)) (gAtD (by omega))]
          rfl
        repeat' ((conv => whnf) <;> (first | (refine YK.yield (T := tab) Qk rfl rfl (SbL.refl _) (hy j _ [_] L1 c1 hw0 hle0 hx j2) ?_ <;> rintro y _ ⟨L2, rfl, hq⟩) | refine CK.anyYK 11 Qk ?_ | refine iR (T := tab) ?_ | refine zM ?_ | refine zW ?_ | intro _ | exact zF | refine Br.tt ?_ | refine Br.ff ?_ | (refine Br.mk (fun h => ?_) (fun h => ?_) <;> (try simp only [sh] at h) <;> try first | (exfalso; omega) | exact absurd trivial h | (simp at h; done)) | refine zA ?_ | refine zN ?_ | refine zO ?_ | refine zP ?_ | refine zB ?_ | refine lB ?_ | refine lBA ?_ | refine rA ?_ | refine r1 ?_ | refine lM ?_ | refine lM0 ?_ | refine lMA ?_ | refine sM ?_ | refine zK ?_ | refine s1 ?_ | refine sA ?_ | refine zC ?_ | fail))
        · conv => whnf
          subst h
          exact .out _ (List.Sublist.refl _) ⟨rfl, [_], L2, rfl, .inr hq⟩
        · subst h
          (conv => whnf); (refine Nxt.of ((j + 1, L2)) [9, 43, 44, 45, 46, 47, 48, 49, 50, 51, 52, 53, 54, 55, 56, 57, 58, 59] Qr Qr Qr ?_ ?_ Qy Qs <;> (try dsimp only) <;> (try omega))
          exact ⟨by omega, hq⟩
      · obtain rfl : j = SS.length := by omega
        repeat' ((conv => whnf) <;> (first | refine zM ?_ | refine zW ?_ | intro _ | exact zF | refine Br.tt ?_ | refine Br.ff ?_ | (refine Br.mk (fun h => ?_) (fun h => ?_) <;> (try simp only [sh] at h) <;> try first | (exfalso; omega) | exact absurd trivial h | (simp at h; done)) | refine zA ?_ | refine zN ?_ | refine zO ?_ | refine zP ?_ | refine zB ?_ | refine lB ?_ | refine lBA ?_ | refine rA ?_ | refine r1 ?_ | refine zK ?_ | refine s1 ?_ | refine sA ?_ | refine zC ?_ | fail))
        conv => whnf
        exact .out _ (List.Sublist.refl _) ⟨rfl, [_], L1, rfl, .inl (by rw [List.length_map, hspl]; exact j2)⟩
set_option maxRecDepth 4000 in
set_option maxHeartbeats 8000000 in
theorem pAdd_ok (den : Int) (ps qs : List Pc) (hp : validB den ps = true) (hq : validB den qs = true) : FnA Try.prog 11 [fav den ps, fav den qs] (.tup [fav (chkR den (sumPs ps qs)).1.1 (chkR den (sumPs ps qs)).1.2, I (chkR den (sumPs ps qs)).2]) := by
  have h1 := valid_parts hp
  have h2 := valid_parts hq
  have hSl := starts_len (ps := ps) (qs := qs)
  have hsl : (sumPs ps qs).length ≤ 128 := by unfold sumPs; rw [List.length_map]; omega
  have cc := pChecked_ok den (sumPs ps qs) (by omega)
  have cb := pBoth_ok den ps qs hp hq
  have cs := pStr_ok den den ps qs
  have hit := pStr1_iter den den ps qs ⟨by omega, by omega⟩ (by omega)
  have hspl := sps_len ps qs
  refine fnM_run (T := tab) Try.func11 rfl Try.ntmps11 rfl Try.results11 (fun _ => ?_)
  repeat' ((conv => whnf) <;> (first | refine zM ?_ | refine zW ?_ | intro _ | exact zF | refine Br.tt ?_ | refine Br.ff ?_ | (refine Br.mk (fun h => ?_) (fun h => ?_) <;> (try simp only [sh] at h) <;> try first | (exfalso; omega) | exact absurd trivial h | (simp at h; done)) | refine zA ?_ | refine zN ?_ | refine zO ?_ | refine zP ?_ | refine zB ?_ | refine zL ent28 cb ?_ | refine zG ent28 (fun h => cb) ?_ | refine zL ent29 cs ?_ | refine zG ent29 (fun h => cs) ?_ | refine lB ?_ | refine lBA ?_ | refine rA ?_ | refine r1 ?_ | refine zK ?_ | refine s1 ?_ | refine sA ?_ | refine zC ?_ | fail))
  rename_i c0 b3 b4 b5 b7
  conv => whnf
  refine CK.nilrow 55 3 ?_
  refine CK.rangeN (T := tab) (p := [26]) ent46 (fun x hx => by obtain ⟨s, _, rfl⟩ := List.mem_map.1 hx; rfl) rfl (Sb.refl _) hit (σ := Nat × Value) (fun j s => s.1 = j) (fun s => [.row s.2 55 3 0 false (((sumPs ps qs).take s.1).map pav), .blk b7 24 false [I den, .v s.2]]) [.blk b5 24 false [I 0, .v (.slice none 0 0)], .blk b4 24 false [I den, .sl 3 (qs.map pav)], .blk b3 24 false [I den, .sl 3 (ps.map pav)]] (fun _ _ => False) (0, .slice none 0 0) rfl (by exact List.Sublist.refl _) ?_ ?_ (fun _ _ _ h => h.elim)
  · intro j x t hx ht c' lp T1 T2
    obtain ⟨j', v⟩ := t
    obtain rfl : j' = j := ht
    rw [List.getElem?_map] at hx
    obtain ⟨s, hs, rfl⟩ : ∃ s, (spsR ps qs)[j']? = some s ∧ [spav s] = x := by
      cases h : (spsR ps qs)[j']? with
      | none => rw [h] at hx; cases hx
      | some s => rw [h] at hx; exact ⟨s, rfl, by simpa using hx⟩
    have hsk := prs_start hs
    have hb := starts_bd hp (.inr hq) (List.mem_of_getElem? hsk)
    have ca := at_ok den s.1 ps hp hb.1 hb.2
    have cb := at_ok den s.1 qs hq hb.1 hb.2
    have na := numAt_bd hp hb.1 hb.2
    have nb := numAt_bd hq hb.1 hb.2
    have pa := pcAt_bd hp hb.1
    have pb := pcAt_bd hq hb.1
    have hb1 : (((sumPs ps qs).take j').map pav).length ≤ 200 := by
      rw [List.length_map, List.length_take]; omega
    have e2 := sum_take hsk
    repeat' ((conv => whnf) <;> (first | refine Bgn.at 6 (List.Sublist.refl _) ?_ | refine zM ?_ | refine zW ?_ | intro _ | exact zF | refine Br.tt ?_ | refine Br.ff ?_ | (refine Br.mk (fun h => ?_) (fun h => ?_) <;> (try simp only [sh] at h) <;> try first | (exfalso; omega) | exact absurd trivial h | (simp at h; done)) | refine zA ?_ | refine zN ?_ | refine zO ?_ | refine zP ?_ | refine zB ?_ | refine lB ?_ | refine lBA ?_ | refine rA ?_ | refine r1 ?_ | refine zK ?_ | refine s1 ?_ | refine sA ?_ | refine zC ?_ | fail))
    conv => whnf
    dsimp only
    repeat' ((conv => whnf) <;> (first | refine zM ?_ | refine zW ?_ | intro _ | exact zF | refine Br.tt ?_ | refine Br.ff ?_ | (refine Br.mk (fun h => ?_) (fun h => ?_) <;> (try simp only [sh] at h) <;> try first | (exfalso; omega) | exact absurd trivial h | (simp at h; done)) | refine zA ?_ | refine zN ?_ | refine zO ?_ | refine zP ?_ | refine zB ?_ | refine zL ent30 ca ?_ | refine zG ent30 (fun h => ca) ?_ | refine zL ent30 cb ?_ | refine zG ent30 (fun h => cb) ?_ | refine lB ?_ | refine lBA ?_ | refine rA ?_ | refine r1 ?_ | refine zK ?_ | refine s1 ?_ | refine sA ?_ | refine pS ?_ | refine LK.gr (Gr.bslV rfl rfl rfl rfl) ?_ | refine Ask.of (Gr.bslV rfl rfl rfl rfl) ?_ | refine zC ?_ | refine zD ?_ | fail))
    rename_i A q cp
    refine Rnd.of (j' + 1, Value.slice A q cp) rfl ?_
    rw [e2, List.map_append]
    exact Qs
  · intro t D ht
    obtain ⟨j', v⟩ := t
    obtain rfl : j' = _ := ht
    have etk : (sumPs ps qs).take ((spsR ps qs).map fun s => [spav s]).length = sumPs ps qs := by
      rw [List.length_map, hspl, show (startsR ps qs).length = (sumPs ps qs).length by unfold sumPs; simp, List.take_length]
    dsimp only
    rw [etk]
    have hsm : ((sumPs ps qs).map pav).length = (sumPs ps qs).length := by simp
    repeat' ((conv => whnf) <;> (first | (refine LK.frzR 1 rfl ?_ <;> refine LK.see 55 rfl (Sb.agg (.cons (Sb.refl _) (.cons (Sb.row 1 rfl) .nil))) ?_ <;> refine LK.callA ent31 cc rfl rfl Ql ?_) | refine zM ?_ | refine zW ?_ | intro _ | exact zF | refine Br.tt ?_ | refine Br.ff ?_ | (refine Br.mk (fun h => ?_) (fun h => ?_) <;> (try simp only [sh] at h) <;> try first | (exfalso; omega) | exact absurd trivial h | (simp at h; done)) | refine zA ?_ | refine zN ?_ | refine zO ?_ | refine zP ?_ | refine zB ?_ | refine lB ?_ | refine lBA ?_ | refine rA ?_ | refine r1 ?_ | refine zK ?_ | refine s1 ?_ | refine sA ?_ | refine zC ?_ | fail))
    repeat' ((conv => whnf) <;> (first | refine Unm.at 0 rfl ?_ | refine zM ?_ | refine zW ?_ | intro _ | exact zF | refine Fin.pure ?_ | refine Br.tt ?_ | refine Br.ff ?_ | (refine Br.mk (fun h => ?_) (fun h => ?_) <;> (try simp only [sh] at h) <;> try first | (exfalso; omega) | exact absurd trivial h | (simp at h; done)) | refine zA ?_ | refine zN ?_ | refine zO ?_ | refine zP ?_ | refine zB ?_ | refine lB ?_ | refine lBA ?_ | refine rA ?_ | refine r1 ?_ | refine zK ?_ | refine s1 ?_ | refine sA ?_ | refine zC ?_ | fail))
end Go.Proofs.Ytnekeokgognegaa
