/-
  Walks: pick, Made.
  Conditions: those of each theorem.
-/
import Derived.Test.YtnekeokgognegaaU6
namespace Go.Proofs.Ytnekeokgognegaa
open Go.E2 Go.Wage
def pickR (c n : Int) : Int := if c < 0 then (-(c + 1)) % n else c % n
theorem pickR_bd (c : Int) {n : Int} (hn : 1 ≤ n) : 0 ≤ pickR c n ∧ pickR c n < n := by
  unfold pickR
  split
  · exact ⟨Int.emod_nonneg _ (by omega), Int.emod_lt_of_pos _ (by omega)⟩
  · exact ⟨Int.emod_nonneg _ (by omega), Int.emod_lt_of_pos _ (by omega)⟩
theorem pick_ok (c n : Int) (hc : -9223372036854775808 ≤ c ∧ c ≤ 9223372036854775807) (hn : 1 ≤ n ∧ n ≤ 9000000000000000000) : FnA Try.prog 17 [I c, I n] (I (pickR c n)) := by
  unfold pickR
  refine fn_run (T := tab) Try.func17 rfl Try.ntmps17 rfl Try.results17 (fun _ => ?_)
  by_cases h : c < 0
  · rw [if_pos h]
    repeat' ((conv => whnf) <;> (first | refine zM ?_ | refine zW ?_ | intro _ | exact zF | refine Fin.pure ?_ | refine Br.tt ?_ | refine Br.ff ?_ | (refine Br.mk (fun h => ?_) (fun h => ?_) <;> (try simp only [sh] at h) <;> try first | (exfalso; omega) | exact absurd trivial h | (simp at h; done)) | refine zA ?_ | refine zN ?_ | refine zO ?_ | refine zP ?_ | refine zB ?_ | refine zR ?_ | refine Rem.t Qw ?_ | refine lB ?_ | refine lBA ?_ | refine rA ?_ | refine r1 ?_ | refine zK ?_ | refine s1 ?_ | refine sA ?_ | refine zC ?_ | fail))
    all_goals done
  · rw [if_neg h]
    repeat' ((conv => whnf) <;> (first | refine zM ?_ | refine zW ?_ | intro _ | exact zF | refine Fin.pure ?_ | refine Br.tt ?_ | refine Br.ff ?_ | (refine Br.mk (fun h => ?_) (fun h => ?_) <;> (try simp only [sh] at h) <;> try first | (exfalso; omega) | exact absurd trivial h | (simp at h; done)) | refine zA ?_ | refine zN ?_ | refine zO ?_ | refine zP ?_ | refine zB ?_ | refine zR ?_ | refine Rem.t Qw ?_ | refine lB ?_ | refine lBA ?_ | refine rA ?_ | refine r1 ?_ | refine zK ?_ | refine s1 ?_ | refine sA ?_ | refine zC ?_ | fail))
    all_goals done
abbrev T3 := Int × Int × Int
def tav (t : T3) : AV := .agg [I t.1, I t.2.1, I t.2.2]
def inI (x : Int) : Prop := -9223372036854775808 ≤ x ∧ x ≤ 9223372036854775807
def T3ok (t : T3) : Prop := inI t.1 ∧ inI t.2.1 ∧ inI t.2.2
def denM (den : Int) : Int := 1 + pickR den 1000
def frmM (l : List T3) (k : Nat) : Int := (l.take k).foldl (fun s t => s + (1 + pickR t.1 30000000000)) 0
def atM (D b : Int) : Int := if b.tmod 3 = 0 then pickR b 2000001 - 1000000 else (pickR b 2000001 - 1000000) * D
def pcM (D : Int) (l : List T3) (i : Nat) : Pc := ⟨frmM l i, atM D (l.getD i default).2.1, pickR (l.getD i default).2.2 4001 - 2000⟩
def pcsM (D : Int) (l : List T3) (k : Nat) : List Pc := (List.range k).map (pcM D l)
def madeM (den : Int) (l : List T3) : List Pc := if l = [] then [⟨0, 0, 0⟩] else pcsM (denM den) l (min l.length 30)
theorem frmM_succ {l : List T3} {k : Nat} {t : T3} (h : l[k]? = some t) : frmM l (k + 1) = frmM l k + (1 + pickR t.1 30000000000) := by
  unfold frmM
  obtain ⟨hlt, he⟩ := List.getElem?_eq_some_iff.1 h
  rw [List.take_succ_eq_append_getElem hlt, he, List.foldl_append]
  rfl
theorem frmM_bd (l : List T3) : ∀ k, k ≤ l.length → 0 ≤ frmM l k ∧ frmM l k ≤ 30000000000 * k
  | 0, _ => by simp [frmM]
  | k + 1, h => by
    have ih := frmM_bd l k (by omega)
    rw [frmM_succ (List.getElem?_eq_getElem (show k < l.length by omega))]
    have := pickR_bd (l[k]'(by omega)).1 (n := 30000000000) (by omega)
    omega
theorem pcsM_succ {D : Int} {l : List T3} {k : Nat} {t : T3} (h : l[k]? = some t) : pcsM D l (k + 1) = pcsM D l k ++ [⟨frmM l k, atM D t.2.1, pickR t.2.2 4001 - 2000⟩] := by
  unfold pcsM
  rw [List.range_succ, List.map_append]
  have e : l.getD k default = t := by rw [List.getD, h]; rfl
  simp only [List.map_cons, List.map_nil, pcM, e]
theorem atM_mul {D b : Int} (hD : 1 ≤ D ∧ D ≤ 1000) : -1000000000 ≤ (pickR b 2000001 - 1000000) * D ∧ (pickR b 2000001 - 1000000) * D ≤ 1000001000 := by
  have hp := pickR_bd b (n := 2000001) (by omega)
  have a1 : (pickR b 2000001 - 1000000) * D ≤ 1000001 * D := Int.mul_le_mul_of_nonneg_right (by omega) (by omega)
  have a2 : -1000000 * D ≤ (pickR b 2000001 - 1000000) * D := Int.mul_le_mul_of_nonneg_right (by omega) (by omega)
  omega
structure MdS where
  k : Nat
  v : Value
def mdJ (b4 b5 : Nat) (D : Int) (l : List T3) : MdS → List Ent
  | ⟨0, _⟩ => [.row (.slice none 0 0) 55 3 0 false [], .blk b5 24 false [I D, .sl 3 [.agg [I 0, I 0, I 0]]], .blk b4 24 false [I 0, .v (.slice none 0 0)]]
  | ⟨k + 1, v⟩ => [.row v 55 3 0 false ((pcsM D l (k + 1)).map pav), .blk b5 24 false [I D, .v v], .blk b4 24 false [I 0, .v (.slice none 0 0)]]
set_option maxRecDepth 4000 in
set_option maxHeartbeats 8000000 in
theorem qMade_ok (den : Int) (l : List T3) (hd : inI den) (hl : ∀ t ∈ l, T3ok t) (hlen : l.length ≤ 9223372036854775807) : FnA Try.prog 10 [I den, .sl 3 (l.map tav)] (fav (denM den) (madeM den l)) := by
  have hll : (l.map tav).length = l.length := by simp
  have c0 := pick_ok den 1000 hd (by omega)
  have hD0 := pickR_bd den (n := 1000) (by omega)
  have hD : 1 ≤ denM den ∧ denM den ≤ 1000 := by unfold denM; omega
  refine fn_run (T := tab) Try.func10 rfl Try.ntmps10 rfl Try.results10 (fun _ => ?_)
  repeat' ((conv => whnf) <;> (first | refine zM ?_ | refine zW ?_ | intro _ | exact zF | refine Br.tt ?_ | refine Br.ff ?_ | (refine Br.mk (fun h => ?_) (fun h => ?_) <;> (try simp only [sh] at h) <;> try first | (exfalso; omega) | exact absurd trivial h | (simp at h; done)) | refine zA ?_ | refine zN ?_ | refine zO ?_ | refine zP ?_ | refine zB ?_ | refine zR ?_ | refine Rem.t Qw ?_ | refine zL ent17 c0 ?_ | refine zG ent17 (fun h => c0) ?_ | refine lB ?_ | refine lBA ?_ | refine rA ?_ | refine r1 ?_ | refine zK ?_ | refine s1 ?_ | refine sA ?_ | refine pS ?_ | refine LK.gr (Gr.bslV rfl rfl rfl rfl) ?_ | refine Ask.of (Gr.bslV rfl rfl rfl rfl) ?_ | refine zC ?_ | refine zD ?_ | fail))
  rename_i b4 b5
  conv => whnf
  refine CK.nilrow 55 3 ?_
  (conv => whnf); refine CK.loopK [6, 7, 8, 15, 16, 17, 18, 19, 20, 21, 22, 23, 24, 25, 26, 27, 28, 29, 30, 31, 32, 33, 34, 35, 36, 37, 38, 39, 40, 41, 42, 43, 44, 45, 46, 47, 48, 49, 50, 51, 52, 53, 54, 55, 56, 57, 58, 59, 60, 61, 62, 63, 64, 65, 66, 67, 68, 69, 70, 71, 72, 73, 74, 75, 76] (σ := MdS) (fun q => q.k ≤ l.length ∧ q.k ≤ 30) (fun q => [(7, I q.k), (6, I (frmM l q.k))]) (mdJ b4 b5 (denM den) l) _ (fun q => l.length - q.k) ⟨0, .slice none 0 0⟩ ⟨by simp, by simp⟩ Qy (by exact List.Sublist.refl _) ?_
  conv => whnf
  rintro ⟨k, v⟩ ⟨i1, i2⟩
  simp only at i1 i2
  dsimp only
  by_cases hk : k < l.length ∧ k < 30
  · obtain ⟨t, ht⟩ : ∃ t, l[k]? = some t := ⟨_, List.getElem?_eq_getElem hk.1⟩
    have htg : l.getD k default = t := by rw [List.getD, ht]; rfl
    subst htg
    have hto := hl _ (List.mem_of_getElem? ht)
    have c1 := pick_ok (l.getD k default).2.1 2000001 hto.2.1 (by omega)
    have c2 := pick_ok (l.getD k default).2.2 4001 hto.2.2 (by omega)
    have c3 := pick_ok (l.getD k default).1 30000000000 hto.1 (by omega)
    have b1 := pickR_bd (l.getD k default).2.1 (n := 2000001) (by omega)
    have b2 := pickR_bd (l.getD k default).2.2 (n := 4001) (by omega)
    have b3 := pickR_bd (l.getD k default).1 (n := 30000000000) (by omega)
    have hf := frmM_bd l k (by omega)
    have hfs := frmM_succ ht
    have hps := pcsM_succ (D := denM den) ht
    have hm := atM_mul (b := (l.getD k default).2.1) hD
    unfold atM at hps
    have hD1 := hD
    cases k with
    | zero =>
      unfold mdJ
      repeat' ((conv => whnf) <;> (first | refine CK.anyK (id := 6) [0, 1, 2, 3, 4, 5, 6, 7, 8, 9, 10, 11, 12, 13, 14, 15, 16, 17, 18] [19, 20] _ (List.Sublist.refl _) Qk ?_ | refine zM ?_ | refine zW ?_ | intro _ | exact zF | refine Br.tt ?_ | refine Br.ff ?_ | (refine Br.mk (fun h => ?_) (fun h => ?_) <;> (try simp only [sh] at h) <;> try first | (exfalso; omega) | exact absurd trivial h | (simp at h; done)) | refine zA ?_ | refine zN ?_ | refine zO ?_ | refine zP ?_ | refine zB ?_ | refine zR ?_ | refine Rem.t Qw ?_ | refine zL ent17 c1 ?_ | refine zG ent17 (fun h => c1) ?_ | refine zL ent17 c2 ?_ | refine zG ent17 (fun h => c2) ?_ | refine zL ent17 c3 ?_ | refine zG ent17 (fun h => c3) ?_ | refine lB ?_ | refine lBA ?_ | refine rA ?_ | refine r1 ?_ | refine zK ?_ | refine s1 ?_ | refine sA ?_ | refine pS ?_ | refine LK.gr (Gr.bslV rfl rfl rfl rfl) ?_ | refine Ask.of (Gr.bslV rfl rfl rfl rfl) ?_ | refine Kx.nil ?_ | refine Kx.stp rfl rfl Qs ?_ | refine kA ?_ | refine kS ?_ | (refine Kx.frzR 0 rfl ?_ <;> refine kF ?_) | refine kP ?_ | refine k1 ?_ | refine kB ?_ | refine kL ?_ | refine zC ?_ | refine zD ?_ | fail))
      · rename_i A q cp
        rw [if_pos h] at hps
        rw [← hfs]
        (conv => whnf); (refine Nxt.of (⟨0 + 1, Value.slice A q cp⟩) [6, 7, 8, 15, 16, 17, 18, 19, 20, 21, 22, 23, 24, 25, 26, 27, 28, 29, 30, 31, 32, 33, 34, 35, 36, 37, 38, 39, 40, 41, 42, 43, 44, 45, 46, 47, 48, 49, 50, 51, 52, 53, 54, 55, 56, 57, 58, 59, 60, 61, 62, 63, 64, 65, 66, 67, 68, 69, 70, 71, 72, 73, 74, 75, 76] Qr Qr Qr ?_ ?_ Qy ?_ <;> (try dsimp only) <;> (try omega))
        rw [hps, List.map_append]
        exact Qs
      · rename_i A q cp
        rw [if_neg h] at hps
        rw [← hfs]
        (conv => whnf); (refine Nxt.of (⟨0 + 1, Value.slice A q cp⟩) [6, 7, 8, 15, 16, 17, 18, 19, 20, 21, 22, 23, 24, 25, 26, 27, 28, 29, 30, 31, 32, 33, 34, 35, 36, 37, 38, 39, 40, 41, 42, 43, 44, 45, 46, 47, 48, 49, 50, 51, 52, 53, 54, 55, 56, 57, 58, 59, 60, 61, 62, 63, 64, 65, 66, 67, 68, 69, 70, 71, 72, 73, 74, 75, 76] Qr Qr Qr ?_ ?_ Qy ?_ <;> (try dsimp only) <;> (try omega))
        rw [hps, List.map_append]
        exact Qs
    | succ k =>
      unfold mdJ
      have hb1 : ((pcsM (denM den) l (k + 1)).map pav).length ≤ 100 := by
        rw [List.length_map]; unfold pcsM; rw [List.length_map, List.length_range]; omega
      repeat' ((conv => whnf) <;> (first | refine CK.anyK (id := 6) [0, 1, 2, 3, 4, 5, 6, 7, 8, 9, 10, 11, 12, 13, 14, 15, 16, 17, 18] [19, 20] _ (List.Sublist.refl _) Qk ?_ | refine zM ?_ | refine zW ?_ | intro _ | exact zF | refine Br.tt ?_ | refine Br.ff ?_ | (refine Br.mk (fun h => ?_) (fun h => ?_) <;> (try simp only [sh] at h) <;> try first | (exfalso; omega) | exact absurd trivial h | (simp at h; done)) | refine zA ?_ | refine zN ?_ | refine zO ?_ | refine zP ?_ | refine zB ?_ | refine zR ?_ | refine Rem.t Qw ?_ | refine zL ent17 c1 ?_ | refine zG ent17 (fun h => c1) ?_ | refine zL ent17 c2 ?_ | refine zG ent17 (fun h => c2) ?_ | refine zL ent17 c3 ?_ | refine zG ent17 (fun h => c3) ?_ | refine lB ?_ | refine lBA ?_ | refine rA ?_ | refine r1 ?_ | refine zK ?_ | refine s1 ?_ | refine sA ?_ | refine pS ?_ | refine LK.gr (Gr.bslV rfl rfl rfl rfl) ?_ | refine Ask.of (Gr.bslV rfl rfl rfl rfl) ?_ | refine Kx.nil ?_ | refine Kx.stp rfl rfl Qs ?_ | refine kA ?_ | refine kS ?_ | (refine Kx.frzR 0 rfl ?_ <;> refine kF ?_) | refine kP ?_ | refine k1 ?_ | refine kB ?_ | refine kL ?_ | refine zC ?_ | refine zD ?_ | fail))
      · rename_i A q cp
        rw [if_pos h] at hps
        rw [← hfs]
        (conv => whnf); (refine Nxt.of (⟨(k + 1) + 1, Value.slice A q cp⟩) [6, 7, 8, 15, 16, 17, 18, 19, 20, 21, 22, 23, 24, 25, 26, 27, 28, 29, 30, 31, 32, 33, 34, 35, 36, 37, 38, 39, 40, 41, 42, 43, 44, 45, 46, 47, 48, 49, 50, 51, 52, 53, 54, 55, 56, 57, 58, 59, 60, 61, 62, 63, 64, 65, 66, 67, 68, 69, 70, 71, 72, 73, 74, 75, 76] Qr Qr Qr ?_ ?_ Qy ?_ <;> (try dsimp only) <;> (try omega))
        rw [hps, List.map_append]
        exact Qs
      · rename_i A q cp
        rw [if_neg h] at hps
        rw [← hfs]
        (conv => whnf); (refine Nxt.of (⟨(k + 1) + 1, Value.slice A q cp⟩) [6, 7, 8, 15, 16, 17, 18, 19, 20, 21, 22, 23, 24, 25, 26, 27, 28, 29, 30, 31, 32, 33, 34, 35, 36, 37, 38, 39, 40, 41, 42, 43, 44, 45, 46, 47, 48, 49, 50, 51, 52, 53, 54, 55, 56, 57, 58, 59, 60, 61, 62, 63, 64, 65, 66, 67, 68, 69, 70, 71, 72, 73, 74, 75, 76] Qr Qr Qr ?_ ?_ Qy ?_ <;> (try dsimp only) <;> (try omega))
        rw [hps, List.map_append]
        exact Qs
  · cases k with
    | zero =>
      have e : l = [] := List.eq_nil_of_length_eq_zero (by omega)
      have em : madeM den l = [⟨0, 0, 0⟩] := by unfold madeM; rw [if_pos e]
      unfold mdJ
      rw [em]
      repeat' ((conv => whnf) <;> (first | refine zM ?_ | refine zW ?_ | intro _ | exact zF | refine Br.tt ?_ | refine Br.ff ?_ | (refine Br.mk (fun h => ?_) (fun h => ?_) <;> (try simp only [sh] at h) <;> try first | (exfalso; omega) | exact absurd trivial h | (simp at h; done)) | refine zA ?_ | refine zN ?_ | refine zO ?_ | refine zP ?_ | refine zB ?_ | refine zR ?_ | refine Rem.t Qw ?_ | refine lB ?_ | refine lBA ?_ | refine rA ?_ | refine r1 ?_ | refine zK ?_ | refine s1 ?_ | refine sA ?_ | refine zC ?_ | fail))
      all_goals done
    | succ k =>
      have em : madeM den l = pcsM (denM den) l (k + 1) := by
        unfold madeM
        rw [if_neg (by rintro rfl; simp at i1), show min l.length 30 = k + 1 by omega]
      unfold mdJ
      rw [em]
      repeat' ((conv => whnf) <;> (first | (refine LK.frzR 0 rfl ?_ <;> refine LK.see 77 rfl (Sb.agg (.cons (Sb.refl _) (.cons (Sb.row 0 rfl) .nil))) ?_) | refine zM ?_ | refine zW ?_ | intro _ | exact zF | refine Br.tt ?_ | refine Br.ff ?_ | (refine Br.mk (fun h => ?_) (fun h => ?_) <;> (try simp only [sh] at h) <;> try first | (exfalso; omega) | exact absurd trivial h | (simp at h; done)) | refine zA ?_ | refine zN ?_ | refine zO ?_ | refine zP ?_ | refine zB ?_ | refine zR ?_ | refine Rem.t Qw ?_ | refine lB ?_ | refine lBA ?_ | refine rA ?_ | refine r1 ?_ | refine zK ?_ | refine s1 ?_ | refine sA ?_ | refine zC ?_ | fail))
      all_goals done
end Go.Proofs.Ytnekeokgognegaa
