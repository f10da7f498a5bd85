/-
  Walks: the reference's Turn, Least.
  Conditions: those of each theorem.
-/
import Derived.Test.YtnekeokgognegaaU16
namespace Go.E2
/-- what follows behind several paths is walked once: the paths end at a region with the number id -/
theorem CK.join {P : Program} {T : Tr} {c : Ctx} {m : Nat} {ro : Option Nat} {K : KT} {ds : List Deferred} {β : Type} {ops : Array Oper} {dr : Bool} {p : Prop} (id : Nat) (Pr : β → Prop) (G : β → Fr) (S : β → List Ent)
    (main : (∀ b, Pr b → CK P T c m ro (.region id ops dr) K ds (G b) (S b)) → p) (key : ∀ b, Pr b → CK P T c m ro (.region id ops dr) K ds (G b) (S b)) : p := main key
end Go.E2
namespace Go.Proofs.Ytnekeokgognegaa
open Go.E2 Go.Wage
theorem r5Turn_ok (d e from_ to t : Int) (ps qs : List Pc) (hp : validB d ps = true) (hq : validB e qs = true) (h0 : 0 ≤ from_) (h1 : from_ ≤ to) (h2 : to ≤ 1000000000000) (t1 : from_ ≤ t) (t2 : t ≤ to + 1)
    (ht : ∀ x, from_ ≤ x → x ≤ to → (numAt qs x < numAt ps x ↔ t ≤ x)) : FnA Try.prog 37 [fav d ps, fav e qs, I from_, I to] (I t) := by
  have ca := r5At_ok d to ps hp (by omega) h2
  have cb := r5At_ok e to qs hq (by omega) h2
  have na := numAt_bd hp (show 0 ≤ to by omega) h2
  have nb := numAt_bd hq (show 0 ≤ to by omega) h2
  have hto := ht to h1 (Int.le_refl _)
  by_cases hc : t ≤ to
  · have hlt := hto.2 hc
    refine fn_run (T := tab) Try.func37 rfl Try.ntmps37 rfl Try.results37 (fun _ => ?_)
    repeat' ((conv => whnf) <;> (first | refine zM ?_ | refine zW ?_ | intro _ | exact zF | refine Br.tt ?_ | refine Br.ff ?_ | (refine Br.mk (fun h => ?_) (fun h => ?_) <;> (try simp only [sh] at h) <;> try first | (exfalso; omega) | exact absurd trivial h | (simp at h; done)) | refine zA ?_ | refine zN ?_ | refine zO ?_ | refine zP ?_ | refine zB ?_ | refine zQ ?_ | refine Quo.t Qw ?_ | refine zL ent34 ca ?_ | refine zG ent34 (fun h => ca) ?_ | refine zL ent34 cb ?_ | refine zG ent34 (fun h => cb) ?_ | refine lB ?_ | refine lBA ?_ | refine rA ?_ | refine r1 ?_ | refine zK ?_ | refine s1 ?_ | refine sA ?_ | refine zC ?_ | fail))
    (conv => whnf); refine CK.loopK [9, 10, 11, 23, 24, 25, 26, 27, 28, 29, 30, 31, 32, 33, 34, 35, 36, 37, 38, 39, 40, 41] (σ := Int × Int) (fun s => from_ ≤ s.1 ∧ s.1 ≤ t ∧ t ≤ s.2 ∧ s.2 ≤ to) (fun ⟨a, b⟩ => [(9, I a), (10, I b)]) (fun _ => []) _ (fun s => (s.2 - s.1).toNat) (from_, to) ⟨Int.le_refl _, t1, hc, Int.le_refl _⟩ Qy Qs ?_
    conv => whnf
    rintro ⟨a, b⟩ ⟨i1, i2, i3, i4⟩
    simp only at i1 i2 i3 i4
    dsimp only
    by_cases hab : a < b
    · have hm : a ≤ a + (b - a) / 2 ∧ a + (b - a) / 2 < b := by omega
      have hmm := ht (a + (b - a) / 2) (by omega) (by omega)
      have cm := r5At_ok d (a + (b - a) / 2) ps hp (by omega) (by omega)
      have cn := r5At_ok e (a + (b - a) / 2) qs hq (by omega) (by omega)
      repeat' ((conv => whnf) <;> (first | refine zM ?_ | refine zW ?_ | intro _ | exact zF | refine Br.tt ?_ | refine Br.ff ?_ | (refine Br.mk (fun h => ?_) (fun h => ?_) <;> (try simp only [sh] at h) <;> try first | (exfalso; omega) | exact absurd trivial h | (simp at h; done)) | refine zA ?_ | refine zN ?_ | refine zO ?_ | refine zP ?_ | refine zB ?_ | refine zQ ?_ | refine Quo.t Qw ?_ | refine zL ent34 cm ?_ | refine zG ent34 (fun h => cm) ?_ | refine zL ent34 cn ?_ | refine zG ent34 (fun h => cn) ?_ | refine lB ?_ | refine lBA ?_ | refine rA ?_ | refine r1 ?_ | refine zK ?_ | refine s1 ?_ | refine sA ?_ | refine zC ?_ | fail))
      · have := hmm.1 h
        (conv => whnf); (refine Nxt.of ((a, a + (b - a) / 2)) [9, 10, 11, 23, 24, 25, 26, 27, 28, 29, 30, 31, 32, 33, 34, 35, 36, 37, 38, 39, 40, 41] Qr Qr Qr ?_ ?_ Qy Qs <;> (try dsimp only) <;> (try omega))
      · have : ¬ t ≤ a + (b - a) / 2 := fun g => by have := hmm.2 g; omega
        (conv => whnf); (refine Nxt.of ((a + (b - a) / 2 + 1, b)) [9, 10, 11, 23, 24, 25, 26, 27, 28, 29, 30, 31, 32, 33, 34, 35, 36, 37, 38, 39, 40, 41] Qr Qr Qr ?_ ?_ Qy Qs <;> (try dsimp only) <;> (try omega))
    · obtain rfl : a = t := by omega
      repeat' ((conv => whnf) <;> (first | refine zM ?_ | refine zW ?_ | intro _ | exact zF | refine Fin.pure ?_ | refine Br.tt ?_ | refine Br.ff ?_ | (refine Br.mk (fun h => ?_) (fun h => ?_) <;> (try simp only [sh] at h) <;> try first | (exfalso; omega) | exact absurd trivial h | (simp at h; done)) | refine zA ?_ | refine zN ?_ | refine zO ?_ | refine zP ?_ | refine zB ?_ | refine zQ ?_ | refine Quo.t Qw ?_ | refine lB ?_ | refine lBA ?_ | refine rA ?_ | refine r1 ?_ | refine zK ?_ | refine s1 ?_ | refine sA ?_ | refine zC ?_ | fail))
  · obtain rfl : t = to + 1 := by omega
    have hge : ¬ numAt qs to < numAt ps to := fun g => hc (hto.1 g)
    refine fn_run (T := tab) Try.func37 rfl Try.ntmps37 rfl Try.results37 (fun _ => ?_)
    repeat' ((conv => whnf) <;> (first | refine zM ?_ | refine zW ?_ | intro _ | exact zF | refine Fin.pure ?_ | refine Br.tt ?_ | refine Br.ff ?_ | (refine Br.mk (fun h => ?_) (fun h => ?_) <;> (try simp only [sh] at h) <;> try first | (exfalso; omega) | exact absurd trivial h | (simp at h; done)) | refine zA ?_ | refine zN ?_ | refine zO ?_ | refine zP ?_ | refine zB ?_ | refine zQ ?_ | refine Quo.t Qw ?_ | refine zL ent34 ca ?_ | refine zG ent34 (fun h => ca) ?_ | refine zL ent34 cb ?_ | refine zG ent34 (fun h => cb) ?_ | refine lB ?_ | refine lBA ?_ | refine rA ?_ | refine r1 ?_ | refine zK ?_ | refine s1 ?_ | refine sA ?_ | refine zC ?_ | fail))
set_option maxHeartbeats 1000000 in
theorem turn_ok {d e : Int} {ps qs : List Pc} {s : Sp} (hp : validB d ps = true) (hq : validB e qs = true) (h0 : 0 ≤ s.1) (h1 : s.1 < s.2) (h2 : s.2 ≤ 1000000000001) (sp : ∀ p ∈ ps, p.frm ≤ s.1 ∨ s.2 ≤ p.frm) (sq : ∀ p ∈ qs, p.frm ≤ s.1 ∨ s.2 ≤ p.frm)
    (hle : numAt ps s.1 ≤ numAt qs s.1) : FnA Try.prog 37 [fav d ps, fav e qs, I s.1, I (s.2 - 1)] (I (trnR (numAt ps s.1) (pcAt ps s.1).slope (numAt qs s.1) (pcAt qs s.1).slope s)) := by
  have hb := trn_bd (sl := (pcAt ps s.1).slope) (ot := (pcAt qs s.1).slope) h1 hle
  refine r5Turn_ok d e s.1 (s.2 - 1) _ ps qs hp hq h0 (by omega) (by omega) (by omega) (by omega) fun x g1 g2 => ?_
  rw [(trn_lin hp h0 sp g1 (by omega)).2, (trn_lin hq h0 sq g1 (by omega)).2]
  exact trn_iff hle g1 (by omega)
set_option maxHeartbeats 1000000 in
theorem trn_at {d : Int} {l sl h ot : Int} {ps : List Pc} {s : Sp} (hp : validB d ps = true) (h0 : 0 ≤ s.1) (h1 : s.1 < s.2) (h2 : s.2 ≤ 1000000000001) (sp : ∀ p ∈ ps, p.frm ≤ s.1 ∨ s.2 ≤ p.frm) (hle : l ≤ h) (ht : trnR l sl h ot s < s.2) :
    FnA Try.prog 34 [fav d ps, I (trnR l sl h ot s)] (I (numAt ps s.1 + (pcAt ps s.1).slope * (trnR l sl h ot s - s.1))) ∧ FnA Try.prog 35 [fav d ps, I (trnR l sl h ot s)] (I (pcAt ps s.1).slope) := by
  have hb := trn_bd (sl := sl) (ot := ot) h1 hle
  have hl := trn_lin hp h0 sp (show s.1 ≤ trnR l sl h ot s by omega) ht
  have c1 := r5At_ok d (trnR l sl h ot s) ps hp (by omega) (by omega)
  have c2 := r5Slope_ok d (trnR l sl h ot s) ps hp (by omega)
  rw [hl.2] at c1
  rw [hl.1] at c2
  exact ⟨c1, c2⟩
structure LB where
  bl : Nat
  bh : Nat
  lo : List Pc
  hi : List Pc
  last : Int
def LB.ok (d : Int) (ps qs : List Pc) (s1 s2 : Int) (b : LB) : Prop :=
  validB d b.lo = true ∧ validB d b.hi = true ∧ (∀ p ∈ b.lo, p.frm ≤ s1 ∨ s2 ≤ p.frm) ∧ (∀ p ∈ b.hi, p.frm ≤ s1 ∨ s2 ≤ p.frm) ∧ numAt b.lo s1 ≤ numAt b.hi s1 ∧
    ls1 ps qs (s1, s2) = ls4 (numAt b.lo s1) (pcAt b.lo s1).slope (numAt b.hi s1) (pcAt b.hi s1).slope (s1, s2) ∧ b.last = s2 - 1
set_option maxRecDepth 4000 in
set_option maxHeartbeats 16000000 in
theorem r5Least_ok (d e : Int) (ps qs : List Pc) (hp : ps.length ≤ 9223372036854775807) (hq : qs.length ≤ 9223372036854775807) : FnA Try.prog 14 [fav d ps, fav e qs] (rav (lstG d ps e qs)) := by
  have c1 := r5wrong_ok d e ps qs hp hq
  unfold lstG
  by_cases h : bothR d ps e qs = 0
  · rw [h] at c1
    obtain ⟨h1, h2, rfl⟩ := both_zero h
    rw [if_pos h]
    clear h
    have v1 := valid_parts h1
    have v2 := valid_parts h2
    have hSl := starts_len (ps := ps) (qs := qs)
    have hspl := sps_len ps qs
    have hll := ls_len (ps := ps) (qs := qs) (spsR ps qs).length
    have cc := r5result_ok d (lsR ps qs (spsR ps qs).length) (by omega)
    have cs := starts_ok h1 h2
    have hSm : ((startsR ps qs).map I).length = (startsR ps qs).length := by simp
    refine fn_run (T := tab) Try.func14 rfl Try.ntmps14 rfl Try.results14 (fun _ => ?_)
    repeat' ((conv => whnf) <;> (first | refine zM ?_ | refine zW ?_ | intro _ | exact zF | refine Br.tt ?_ | refine Br.ff ?_ | (refine Br.mk (fun h => ?_) (fun h => ?_) <;> (try simp only [sh] at h) <;> try first | (exfalso; omega) | exact absurd trivial h | (simp at h; done)) | refine zA ?_ | refine zN ?_ | refine zO ?_ | refine zP ?_ | refine zB ?_ | refine zQ ?_ | refine Quo.t Qw ?_ | refine zL ent32 c1 ?_ | refine zG ent32 (fun h => c1) ?_ | refine zL ent33 cs ?_ | refine zG ent33 (fun h => cs) ?_ | refine lB ?_ | refine lBA ?_ | refine rA ?_ | refine r1 ?_ | refine zK ?_ | refine s1 ?_ | refine sA ?_ | refine zC ?_ | fail))
    rename_i b2 b3 b4 b7
    conv => whnf
    refine CK.nilrow 55 3 ?_
    refine CK.weak [(9, I 0), (8, .sl 1 ((startsR ps qs).map I)), (7, .v (.pointer (some ⟨b7, 0, none⟩))), (4, .v (.pointer (some ⟨b4, 0, none⟩))), (3, .v (.pointer (some ⟨b3, 0, none⟩))), (2, .v (.pointer (some ⟨b2, 0, none⟩)))] Qy (List.Sublist.refl _) ?_
    (conv => whnf); refine CK.loopK [9, 10, 11, 12, 13, 27, 28, 29, 30, 31, 32, 33, 34, 35, 36, 37, 38, 39, 40, 41, 42, 43, 44, 45, 46, 47, 48, 49, 50, 51, 52, 53, 54, 55, 56, 57, 58, 59, 60, 61, 62, 63, 64, 65, 66, 67, 68, 69, 70, 71, 72, 73, 74, 75, 76, 77, 78, 79, 80, 81, 82, 83, 84, 85, 86, 87, 88, 89, 90, 91, 92, 93, 94, 95, 96, 97, 98, 99, 100, 101, 102, 103, 104, 105, 106, 107, 108, 109, 110, 111, 112, 113, 114, 115, 116, 117, 118, 119, 120, 121, 122, 123, 124, 125, 126, 127, 128, 129, 130, 131, 132, 133, 134, 135, 136] (σ := Nat × Value) (fun s => s.1 ≤ (startsR ps qs).length) (fun ⟨k, _⟩ => [(9, I k)]) (fun ⟨k, v⟩ => [.row v 55 3 0 false ((lsR ps qs k).map pav), .blk b7 24 false [I d, .v v]]) _ (fun s => (startsR ps qs).length - s.1) (0, .slice none 0 0) (Nat.zero_le _) Qy (by exact List.Sublist.refl _) ?_
    conv => whnf
    rintro ⟨k, v⟩ i1
    simp only at i1
    dsimp only
    by_cases hk : k < (startsR ps qs).length
    · obtain ⟨⟨s1, s2⟩, hs⟩ : ∃ s, (spsR ps qs)[k]? = some s := ⟨_, List.getElem?_eq_getElem (by omega)⟩
      have hsi := sps_in h1 h2 (List.mem_of_getElem? hs)
      obtain ⟨g1, g2, g3, g4, _, g6, g7⟩ := hsi
      have hsc := ls_succ hs
      have hst := prs_start hs
      have hlast : (k + 1 < (startsR ps qs).length → s2 = (startsR ps qs).getD (k + 1) default) ∧ (¬ k + 1 < (startsR ps qs).length → s2 = 1000000000001) := by
        obtain ⟨_, p2, p3⟩ := prs_inv hs
        constructor
        · intro hlt
          rw [List.getElem?_append_left hlt, gAtD hlt] at p2
          exact (Option.some.inj p2).symm
        · intro hnlt
          rw [List.getElem?_append_right (by omega), show k + 1 - (startsR ps qs).length = 0 by omega] at p2
          exact (Option.some.inj p2).symm
      have hel0 : ((startsR ps qs).map I)[(k : Int).toNat]? = some (I s1) := by
        rw [Int.toNat_natCast, List.getElem?_map, hst]
        rfl
      have hlk := ls_len (ps := ps) (qs := qs) k
      have hb1 : ((lsR ps qs k).map pav).length ≤ 300 := by
        rw [List.length_map]; omega
      have hb2 : ∀ y : AV, ((lsR ps qs k).map pav ++ [y]).length ≤ 301 := by
        intro y; rw [List.length_append, List.length_singleton]; omega
      have ca := r5At_ok d s1 ps h1 g1 g2
      have cb := r5At_ok d s1 qs h2 g1 g2
      have sa := r5Slope_ok d s1 ps h1 g1
      have sb := r5Slope_ok d s1 qs h2 g1
      have hkb : k ≤ 1000 := by omega
      refine' CK.join (P := Try.prog) (T := tab) (β := LB) 17 (LB.ok d ps qs s1 s2) (fun b => [(12, .v (.pointer (some ⟨b.bh, 0, none⟩))), (11, .v (.pointer (some ⟨b.bl, 0, none⟩))), (10, I b.last), (9, I k), (8, .sl 1 ((startsR ps qs).map I)), (7, .v (.pointer (some ⟨b7, 0, none⟩))), (4, .v (.pointer (some ⟨b4, 0, none⟩))), (3, .v (.pointer (some ⟨b3, 0, none⟩))), (2, .v (.pointer (some ⟨b2, 0, none⟩)))])
        (fun b => [.blk b.bh 24 false (favC d b.hi), .blk b.bl 24 false (favC d b.lo), .row v 55 3 0 false ((lsR ps qs k).map pav), .blk b7 24 false [I d, .v v], .blk b4 24 false [I 0, .v (.slice none 0 0)], .blk b3 24 false (favC d qs), .blk b2 24 false (favC d ps)]) (fun hk => ?main) (fun b hb => ?key)
      case main =>
        by_cases hC : numAt qs s1 < numAt ps s1 ∨ numAt qs s1 = numAt ps s1 ∧ (pcAt qs s1).slope < (pcAt ps s1).slope
        · have hPr := fun bl bh last (e : last = s2 - 1) => (⟨h2, h1, g7, g6, by dsimp only; omega, by unfold ls1; exact if_pos hC, e⟩ : LB.ok d ps qs s1 s2 ⟨bl, bh, qs, ps, last⟩)
          by_cases hkl : k + 1 < (startsR ps qs).length
          · have hel : ((startsR ps qs).map I)[((k : Int) + 1).toNat]? = some (I s2) := by
              rw [show ((k : Int) + 1).toNat = k + 1 by omega, List.getElem?_map, gAtD hkl, hlast.1 hkl]
              rfl
            repeat' ((conv => whnf) <;> (first | exact CK.weak _ Qy (by exact Qs) (hk ⟨_, _, qs, ps, s2 - 1⟩ (hPr _ _ _ rfl)) | refine zA ?_ (h := hel) | refine zA ?_ (h := hel0) | refine zM ?_ | refine zW ?_ | intro _ | exact zF | refine Br.tt ?_ | refine Br.ff ?_ | (refine Br.mk (fun h => ?_) (fun h => ?_) <;> (try simp only [sh] at h) <;> try first | (exfalso; omega) | exact absurd trivial h | (simp at h; done)) | refine zA ?_ | refine zN ?_ | refine zO ?_ | refine zP ?_ | refine zB ?_ | refine zQ ?_ | refine Quo.t Qw ?_ | refine zL ent34 ca ?_ | refine zG ent34 (fun h => ca) ?_ | refine zL ent34 cb ?_ | refine zG ent34 (fun h => cb) ?_ | refine zL ent35 sa ?_ | refine zG ent35 (fun h => sa) ?_ | refine zL ent35 sb ?_ | refine zG ent35 (fun h => sb) ?_ | refine lB ?_ | refine lBA ?_ | refine rA ?_ | refine r1 ?_ | refine zK ?_ | refine s1 ?_ | refine sA ?_ | refine zC ?_ | fail))
          · have hs2 := hlast.2 hkl
            repeat' ((conv => whnf) <;> (first | exact CK.weak _ Qy (by exact Qs) (hk ⟨_, _, qs, ps, 1000000000000⟩ (hPr _ _ _ (by omega))) | refine zA ?_ (h := hel0) | refine zM ?_ | refine zW ?_ | intro _ | exact zF | refine Br.tt ?_ | refine Br.ff ?_ | (refine Br.mk (fun h => ?_) (fun h => ?_) <;> (try simp only [sh] at h) <;> try first | (exfalso; omega) | exact absurd trivial h | (simp at h; done)) | refine zA ?_ | refine zN ?_ | refine zO ?_ | refine zP ?_ | refine zB ?_ | refine zQ ?_ | refine Quo.t Qw ?_ | refine zL ent34 ca ?_ | refine zG ent34 (fun h => ca) ?_ | refine zL ent34 cb ?_ | refine zG ent34 (fun h => cb) ?_ | refine zL ent35 sa ?_ | refine zG ent35 (fun h => sa) ?_ | refine zL ent35 sb ?_ | refine zG ent35 (fun h => sb) ?_ | refine lB ?_ | refine lBA ?_ | refine rA ?_ | refine r1 ?_ | refine zK ?_ | refine s1 ?_ | refine sA ?_ | refine zC ?_ | fail))
        · have hPr := fun bl bh last (e : last = s2 - 1) => (⟨h1, h2, g6, g7, by dsimp only; omega, by unfold ls1; exact if_neg hC, e⟩ : LB.ok d ps qs s1 s2 ⟨bl, bh, ps, qs, last⟩)
          by_cases hkl : k + 1 < (startsR ps qs).length
          · have hel : ((startsR ps qs).map I)[((k : Int) + 1).toNat]? = some (I s2) := by
              rw [show ((k : Int) + 1).toNat = k + 1 by omega, List.getElem?_map, gAtD hkl, hlast.1 hkl]
              rfl
            repeat' ((conv => whnf) <;> (first | exact CK.weak _ Qy (by exact Qs) (hk ⟨_, _, ps, qs, s2 - 1⟩ (hPr _ _ _ rfl)) | refine zA ?_ (h := hel) | refine zA ?_ (h := hel0) | refine zM ?_ | refine zW ?_ | intro _ | exact zF | refine Br.tt ?_ | refine Br.ff ?_ | (refine Br.mk (fun h => ?_) (fun h => ?_) <;> (try simp only [sh] at h) <;> try first | (exfalso; omega) | exact absurd trivial h | (simp at h; done)) | refine zA ?_ | refine zN ?_ | refine zO ?_ | refine zP ?_ | refine zB ?_ | refine zQ ?_ | refine Quo.t Qw ?_ | refine zL ent34 ca ?_ | refine zG ent34 (fun h => ca) ?_ | refine zL ent34 cb ?_ | refine zG ent34 (fun h => cb) ?_ | refine zL ent35 sa ?_ | refine zG ent35 (fun h => sa) ?_ | refine zL ent35 sb ?_ | refine zG ent35 (fun h => sb) ?_ | refine lB ?_ | refine lBA ?_ | refine rA ?_ | refine r1 ?_ | refine zK ?_ | refine s1 ?_ | refine sA ?_ | refine zC ?_ | fail))
          · have hs2 := hlast.2 hkl
            repeat' ((conv => whnf) <;> (first | exact CK.weak _ Qy (by exact Qs) (hk ⟨_, _, ps, qs, 1000000000000⟩ (hPr _ _ _ (by omega))) | refine zA ?_ (h := hel0) | refine zM ?_ | refine zW ?_ | intro _ | exact zF | refine Br.tt ?_ | refine Br.ff ?_ | (refine Br.mk (fun h => ?_) (fun h => ?_) <;> (try simp only [sh] at h) <;> try first | (exfalso; omega) | exact absurd trivial h | (simp at h; done)) | refine zA ?_ | refine zN ?_ | refine zO ?_ | refine zP ?_ | refine zB ?_ | refine zQ ?_ | refine Quo.t Qw ?_ | refine zL ent34 ca ?_ | refine zG ent34 (fun h => ca) ?_ | refine zL ent34 cb ?_ | refine zG ent34 (fun h => cb) ?_ | refine zL ent35 sa ?_ | refine zG ent35 (fun h => sa) ?_ | refine zL ent35 sb ?_ | refine zG ent35 (fun h => sb) ?_ | refine lB ?_ | refine lBA ?_ | refine rA ?_ | refine r1 ?_ | refine zK ?_ | refine s1 ?_ | refine sA ?_ | refine zC ?_ | fail))
      case key =>
        obtain ⟨bl, bh, lo, hi, last⟩ := b
        obtain ⟨vlo, vhi, glo, ghi, hle, hl4, hla⟩ := hb
        dsimp only at vlo vhi glo ghi hle hl4 hla
        rw [hl4, ls4_trn] at hsc
        have tb := trn_bd (s := (s1, s2)) (sl := (pcAt lo s1).slope) (ot := (pcAt hi s1).slope) g3 hle
        have tt := turn_ok (s := (s1, s2)) vlo vhi g1 g3 g4 glo ghi hle
        have ta := trn_at (s := (s1, s2)) (sl := (pcAt lo s1).slope) (ot := (pcAt hi s1).slope) vhi g1 g3 g4 ghi hle
        have cl := r5At_ok d s1 lo vlo g1 g2
        have sl := r5Slope_ok d s1 lo vlo g1
        dsimp only at g1 g2 g3 g4 hsc tb tt ta cl sl
        rw [← hla] at tt
        generalize trnR (numAt lo s1) (pcAt lo s1).slope (numAt hi s1) (pcAt hi s1).slope (s1, s2) = T1 at hsc tb tt ta
        generalize numAt lo s1 = x1 at hsc ta cl
        generalize numAt hi s1 = y1 at hsc ta
        generalize (pcAt lo s1).slope = x2 at hsc ta sl
        generalize (pcAt hi s1).slope = y2 at hsc ta
        repeat' ((conv => whnf) <;> (first | refine CK.anyK (id := 20) [0, 2, 3, 4, 5, 6, 7, 8, 9, 10] [1, 11, 12, 13] _ (List.Sublist.cons_cons _ (List.Sublist.cons_cons _ (List.Sublist.cons _ (List.Sublist.cons _ (List.Sublist.refl _))))) Qk ?_ | refine CK.anyK (id := 17) [0, 2, 3, 4, 5, 6, 7, 8, 9, 10, 11, 12, 13, 14, 15, 16, 17, 18, 19] [1, 20, 21, 22] _ (List.Sublist.cons_cons _ (List.Sublist.cons_cons _ (List.Sublist.cons _ (List.Sublist.cons _ (List.Sublist.refl _))))) Qk ?_ | refine zA ?_ (h := hel0) | refine zM ?_ | refine zW ?_ | intro _ | exact zF | refine Br.tt ?_ | refine Br.ff ?_ | (refine Br.mk (fun h => ?_) (fun h => ?_) <;> (try simp only [sh] at h) <;> try first | (exfalso; omega) | exact absurd trivial h | (simp at h; done)) | refine zA ?_ | refine zN ?_ | refine zO ?_ | refine zP ?_ | refine zB ?_ | refine zQ ?_ | refine Quo.t Qw ?_ | refine zL ent34 cl ?_ | refine zG ent34 (fun h => cl) ?_ | refine zL ent35 sl ?_ | refine zG ent35 (fun h => sl) ?_ | refine zL ent37 tt ?_ | refine zG ent37 (fun h => tt) ?_ | refine zL ent34 ((ta (by omega)).1) ?_ | refine zG ent34 (fun h => (ta (by omega)).1) ?_ | refine zL ent35 ((ta (by omega)).2) ?_ | refine zG ent35 (fun h => (ta (by omega)).2) ?_ | refine lB ?_ | refine lBA ?_ | refine rA ?_ | refine r1 ?_ | refine zK ?_ | refine s1 ?_ | refine sA ?_ | refine pS ?_ | refine LK.gr (Gr.bslV rfl rfl rfl rfl) ?_ | refine Ask.of (Gr.bslV rfl rfl rfl rfl) ?_ | refine Kx.nil ?_ | refine Kx.stp rfl rfl Qs ?_ | refine kA ?_ | refine kS ?_ | (refine Kx.frzR 0 rfl ?_ <;> refine kF ?_) | refine kP ?_ | refine k1 ?_ | refine kB ?_ | refine kL ?_ | refine zC ?_ | refine zD ?_ | fail))
        · rename_i A q cp
          rw [if_pos (by omega), List.append_cons] at hsc
          (conv => whnf); (refine Nxt.of ((k + 1, Value.slice A q cp)) [9, 10, 11, 12, 13, 27, 28, 29, 30, 31, 32, 33, 34, 35, 36, 37, 38, 39, 40, 41, 42, 43, 44, 45, 46, 47, 48, 49, 50, 51, 52, 53, 54, 55, 56, 57, 58, 59, 60, 61, 62, 63, 64, 65, 66, 67, 68, 69, 70, 71, 72, 73, 74, 75, 76, 77, 78, 79, 80, 81, 82, 83, 84, 85, 86, 87, 88, 89, 90, 91, 92, 93, 94, 95, 96, 97, 98, 99, 100, 101, 102, 103, 104, 105, 106, 107, 108, 109, 110, 111, 112, 113, 114, 115, 116, 117, 118, 119, 120, 121, 122, 123, 124, 125, 126, 127, 128, 129, 130, 131, 132, 133, 134, 135, 136] Qr Qr Qr ?_ ?_ Qy ?_ <;> (try dsimp only) <;> (try omega))
          rw [hsc, List.map_append, List.map_append]
          exact Qs
        · rename_i A q cp
          rw [if_neg (by omega)] at hsc
          (conv => whnf); (refine Nxt.of ((k + 1, Value.slice A q cp)) [9, 10, 11, 12, 13, 27, 28, 29, 30, 31, 32, 33, 34, 35, 36, 37, 38, 39, 40, 41, 42, 43, 44, 45, 46, 47, 48, 49, 50, 51, 52, 53, 54, 55, 56, 57, 58, 59, 60, 61, 62, 63, 64, 65, 66, 67, 68, 69, 70, 71, 72, 73, 74, 75, 76, 77, 78, 79, 80, 81, 82, 83, 84, 85, 86, 87, 88, 89, 90, 91, 92, 93, 94, 95, 96, 97, 98, 99, 100, 101, 102, 103, 104, 105, 106, 107, 108, 109, 110, 111, 112, 113, 114, 115, 116, 117, 118, 119, 120, 121, 122, 123, 124, 125, 126, 127, 128, 129, 130, 131, 132, 133, 134, 135, 136] Qr Qr Qr ?_ ?_ Qy ?_ <;> (try dsimp only) <;> (try omega))
          rw [hsc, List.map_append]
          exact Qs
    · obtain rfl : k = (startsR ps qs).length := by omega
      rw [← hspl]
      have hsm : ((lsR ps qs (spsR ps qs).length).map pav).length = (lsR ps qs (spsR ps qs).length).length := by simp
      unfold rav at cc ⊢
      repeat' ((conv => whnf) <;> (first | (refine LK.frzR 0 rfl ?_ <;> refine LK.see 137 rfl (Sb.agg (.cons (Sb.refl _) (.cons (Sb.row 0 rfl) .nil))) ?_ <;> refine LK.callA ent36 cc rfl rfl Ql ?_) | refine zM ?_ | refine zW ?_ | intro _ | exact zF | refine Br.tt ?_ | refine Br.ff ?_ | (refine Br.mk (fun h => ?_) (fun h => ?_) <;> (try simp only [sh] at h) <;> try first | (exfalso; omega) | exact absurd trivial h | (simp at h; done)) | refine zA ?_ | refine zN ?_ | refine zO ?_ | refine zP ?_ | refine zB ?_ | refine zQ ?_ | refine Quo.t Qw ?_ | refine lB ?_ | refine lBA ?_ | refine rA ?_ | refine r1 ?_ | refine zK ?_ | refine s1 ?_ | refine sA ?_ | refine zC ?_ | fail))
      repeat' ((conv => whnf) <;> (first | refine zM ?_ | refine zW ?_ | intro _ | exact zF | refine Fin.pure ?_ | refine Br.tt ?_ | refine Br.ff ?_ | (refine Br.mk (fun h => ?_) (fun h => ?_) <;> (try simp only [sh] at h) <;> try first | (exfalso; omega) | exact absurd trivial h | (simp at h; done)) | refine zA ?_ | refine zN ?_ | refine zO ?_ | refine zP ?_ | refine zB ?_ | refine zQ ?_ | refine Quo.t Qw ?_ | refine lB ?_ | refine lBA ?_ | refine rA ?_ | refine r1 ?_ | refine zK ?_ | refine s1 ?_ | refine sA ?_ | refine zC ?_ | fail))
  · rw [if_neg h]
    generalize bothR d ps e qs = b at *
    unfold rav
    refine fn_run (T := tab) Try.func14 rfl Try.ntmps14 rfl Try.results14 (fun _ => ?_)
    repeat' ((conv => whnf) <;> (first | (refine LK.see 19 rfl (Sb.agg (.cons (.refl _) (.cons (Sb.nil (k := 3)) .nil))) ?_) | refine zM ?_ | refine zW ?_ | intro _ | exact zF | refine Fin.pure ?_ | refine Br.tt ?_ | refine Br.ff ?_ | (refine Br.mk (fun h => ?_) (fun h => ?_) <;> (try simp only [sh] at h) <;> try first | (exfalso; omega) | exact absurd trivial h | (simp at h; done)) | refine zA ?_ | refine zN ?_ | refine zO ?_ | refine zP ?_ | refine zB ?_ | refine zQ ?_ | refine Quo.t Qw ?_ | refine zL ent32 c1 ?_ | refine zG ent32 (fun h => c1) ?_ | refine lB ?_ | refine lBA ?_ | refine rA ?_ | refine r1 ?_ | refine zK ?_ | refine s1 ?_ | refine sA ?_ | refine zC ?_ | fail))
end Go.Proofs.Ytnekeokgognegaa
