/-
  Walks: law 19: DomainRosters.
  Conditions: those of each theorem.
-/
import Derived.Test.YtjfnkmlnbaianaaGreatDQ
import Derived.Test.YtjfnkmlnbaianaaGreatRO8
import Derived.Test.YtjfnkmlnbaianaaGreatRF2
import Derived.Test.YtjfnkmlnbaianaaGreatRF3
namespace Go.Proofs.YtjfnkmlnbaianaaGreat
open Go.E2 Go.Wage
theorem holds_take {ro : List Int} {cl : List Lt} {k : Nat} (hk : k < cl.length) : holdsC ro (cl.take (k + 1)) = (holdsC ro (cl.take k) || trueL ro (cl.getD k default)) := by
 unfold holdsC
 rw [List.take_succ_eq_append_getElem hk, List.any_append, getD_at' hk]
 simp
set_option maxRecDepth 4000 in
set_option maxHeartbeats 8000000 in
theorem nholds_ok (cl : List Lt) (ro : List Int) (hc : cl.length ≤ 1000000) (_hr : ro.length ≤ 1000000) : FnA Tryz.prog 28 [.sl 3 (cl.map ltav), .sl 1 (ro.map I)] (B (holdsC ro cl)) := by
 have hcl : (cl.map ltav).length = cl.length := by simp
 have hrl : (ro.map I).length = ro.length := by simp
 refine fn_run (T := tab) Tryz.func28 rfl Tryz.ntmps28 rfl Tryz.results28 (fun _ => ?_)
 repeat' ((conv => whnf) <;> (first | refine zM ?_ | refine zW ?_ | intro _ | exact zF | refine Br.tt ?_ | refine Br.ff ?_ | (refine Br.mk (fun h => ?_) (fun h => ?_) <;> (try simp only [sh] at h) <;> try first | (exfalso; omega) | exact absurd trivial h | (simp at h; done)) | refine zA ?_ | refine zN ?_ | refine zO ?_ | refine zP ?_ | refine zB ?_ | refine zR ?_ | refine Rem.t Qw ?_ | refine lB ?_ | refine lBA ?_ | refine zK ?_ | refine s1 ?_ | refine sA ?_ | refine zC ?_ | fail))
 (conv => whnf); refine CK.loopK [4, 6, 9, 10, 11, 12, 13, 14, 15, 16, 17, 18, 19, 20, 21, 22, 23, 24, 25, 26, 27, 28, 29, 30, 31, 32, 33, 34, 35, 36] (σ := Nat) (fun k => k ≤ cl.length ∧ holdsC ro (cl.take k) = false) (fun k => [(9, I k)]) (fun _ => []) [] (fun k => cl.length - k) 0 ⟨Nat.zero_le _, rfl⟩ Qy (List.Sublist.refl _) ?_
 conv => whnf
 rintro k ⟨i1, i2⟩
 by_cases hk : k < cl.length
 ·have hht := holds_take (ro := ro) hk
  rw [i2, Bool.false_or] at hht
  unfold trueL at hht
  repeat' ((conv => whnf) <;> (first | refine CK.anyK (id := 4) [0, 1, 2, 3, 4, 5, 6, 7, 8, 9, 10, 11, 12, 13, 14, 15, 16, 17, 18, 19, 20, 21, 22] [] _ (List.Sublist.refl _) Qk ?_ | refine zM ?_ | refine zW ?_ | intro _ | exact zF | refine Br.tt ?_ | refine Br.ff ?_ | (refine Br.mk (fun h => ?_) (fun h => ?_) <;> (try simp only [sh] at h) <;> try first | (exfalso; omega) | exact absurd trivial h | (simp at h; done)) | refine zA ?_ | refine zN ?_ | refine zO ?_ | refine zP ?_ | refine zB ?_ | refine zR ?_ | refine Rem.t Qw ?_ | refine lB ?_ | refine lBA ?_ | refine zK ?_ | refine s1 ?_ | refine sA ?_ | refine Kx.nil ?_ | refine Kx.stp rfl rfl Qs ?_ | refine kA ?_ | (refine Kx.frzR 0 rfl ?_ <;> refine kF ?_) | refine kP ?_ | refine k1 ?_ | refine kB ?_ | refine kL ?_ | refine zC ?_ | exact True.intro | fail))
  ·conv => whnf
   refine .out _ (by exact List.nil_sublist _) ⟨congrArg B ?_, rfl⟩
   have h1 : holdsC ro (cl.take (k + 1)) = true := by
    rw [hht, decide_eq_true h.1.1, decide_eq_true h.1.2, h.2]
    simp
   obtain ⟨x, hx, hx2⟩ := holds_or.1 h1
   exact (holds_or.2 ⟨x, List.mem_of_mem_take hx, hx2⟩).symm
  ·(conv => whnf); (refine Nxt.of (k + 1) [4, 6, 9, 10, 11, 12, 13, 14, 15, 16, 17, 18, 19, 20, 21, 22, 23, 24, 25, 26, 27, 28, 29, 30, 31, 32, 33, 34, 35, 36] Qr Qr Qr ?_ ?_ Qy Qs <;> (try dsimp only) <;> (try omega))
   refine ⟨hk, ?_⟩
   rw [hht]
   rcases h with (h | h) | h
   ·rw [decide_eq_false (by omega), Bool.false_and, Bool.false_and]
   ·rw [decide_eq_false (p := (cl.getD k default).du < (ro.length : Int)) (by omega), Bool.and_false, Bool.false_and]
   ·rw [beq_eq_false_iff_ne.2 h, Bool.and_false]
 ·obtain rfl : k = cl.length := by omega
  rw [List.take_length] at i2
  repeat' ((conv => whnf) <;> (first | refine zM ?_ | refine zW ?_ | intro _ | exact zF | refine Br.tt ?_ | refine Br.ff ?_ | (refine Br.mk (fun h => ?_) (fun h => ?_) <;> (try simp only [sh] at h) <;> try first | (exfalso; omega) | exact absurd trivial h | (simp at h; done)) | refine zA ?_ | refine zN ?_ | refine zO ?_ | refine zP ?_ | refine zB ?_ | refine zR ?_ | refine Rem.t Qw ?_ | refine lB ?_ | refine lBA ?_ | refine zK ?_ | refine s1 ?_ | refine sA ?_ | refine zC ?_ | fail))
  conv => whnf
  exact .out _ (by exact List.nil_sublist _) ⟨congrArg B i2.symm, rfl⟩
def fillP (m : Int) (picks : List Int) (n d : Nat) : List Int := (List.range d).map (fun i => picks.getD i default % m) ++ List.replicate (n - d) 0
theorem fillP_len {m : Int} {picks : List Int} {n d : Nat} (h : d ≤ n) : (fillP m picks n d).length = n := by unfold fillP; simp; omega
theorem fillP_set {m : Int} {picks : List Int} {n d : Nat} (h : d < n) : (fillP m picks n d).set d (picks.getD d default % m) = fillP m picks n (d + 1) := by
 unfold fillP
 rw [show n - d = (n - (d + 1)) + 1 by omega, List.replicate_succ, List.set_append_right _ _ (by simp), List.length_map, List.length_range, Nat.sub_self, List.set_cons_zero, List.range_succ, List.map_append, List.append_assoc]
 rfl
theorem fillP_full {p : Pl} {m : Int} {picks : List Int} (hm : m = p.workers.length) (h0 : 0 < p.workers.length) : FullR p (fillP m picks p.duties.length p.duties.length) := by
 have hx : ∀ x ∈ fillP m picks p.duties.length p.duties.length, 0 ≤ x ∧ x < p.workers.length := fun x hx => by
  unfold fillP at hx
  rw [Nat.sub_self, List.replicate_zero, List.append_nil] at hx
  obtain ⟨i, _, rfl⟩ := List.mem_map.1 hx
  have h1 := Int.emod_nonneg (picks.getD i default) (b := m) (by omega)
  have h2 := Int.emod_lt_of_pos (picks.getD i default) (b := m) (by omega)
  omega
 refine ⟨isRo_iff.2 ⟨fillP_len (Nat.le_refl _), fun x h => ?_⟩, fun x h => (hx x h).1⟩
 have := hx x h
 omega
set_option maxRecDepth 4000 in
set_option maxHeartbeats 8000000 in
theorem nRosters_all (p : Pl) (picks : List Int) (hz : PlZ p) (_hp : picks.length ≤ 9223372036854775807) (hb : ∀ n ∈ picks, 0 ≤ n ∧ n ≤ 255) : FnA Tryz.prog 9 [.agg (pcs p), .sl 1 (picks.map U8)] (B true) := by
 have c0 := nHead_ok
 have c1 := nsmall_ok p hz
 have hpl : (picks.map U8).length = picks.length := by simp
 have hld : (p.duties.map duav).length = p.duties.length := by simp
 have hlw : (p.workers.map wkav).length = p.workers.length := by simp
 by_cases hs : smallV p [] 7 = true
 ·rw [hs] at c1
  obtain ⟨sm, h7, h20⟩ := small7 hs
  have k4 := v8Valid_ok p sm
  by_cases hv : validP p = true
  ·rw [hv] at k4
   by_cases hw0 : p.workers.length = 0
   ·refine fn_run (T := tab) Tryz.func9 rfl Tryz.ntmps9 rfl Tryz.results9 (fun _ => ?_)
    repeat' ((conv => whnf) <;> (first | refine zM ?_ | refine zW ?_ | intro _ | exact zF | refine Fin.pure ?_ | refine Br.tt ?_ | refine Br.ff ?_ | (refine Br.mk (fun h => ?_) (fun h => ?_) <;> (try simp only [sh] at h) <;> try first | (exfalso; omega) | exact absurd trivial h | (simp at h; done)) | refine zA ?_ | refine zN ?_ | refine zO ?_ | refine zP ?_ | refine zB ?_ | refine zR ?_ | refine Rem.t Qw ?_ | refine zL ent10 c0 ?_ | refine zG ent10 (fun h => c0) ?_ | refine zL ent11 c1 ?_ | refine zG ent11 (fun h => c1) ?_ | refine zL ent24 k4 ?_ | refine zG ent24 (fun h => k4) ?_ | refine lB ?_ | refine lBA ?_ | refine zK ?_ | refine s1 ?_ | refine sA ?_ | refine zC ?_ | exact True.intro | fail))
   ·by_cases hpd : picks.length < p.duties.length
    ·refine fn_run (T := tab) Tryz.func9 rfl Tryz.ntmps9 rfl Tryz.results9 (fun _ => ?_)
     repeat' ((conv => whnf) <;> (first | refine zM ?_ | refine zW ?_ | intro _ | exact zF | refine Fin.pure ?_ | refine Br.tt ?_ | refine Br.ff ?_ | (refine Br.mk (fun h => ?_) (fun h => ?_) <;> (try simp only [sh] at h) <;> try first | (exfalso; omega) | exact absurd trivial h | (simp at h; done)) | refine zA ?_ | refine zN ?_ | refine zO ?_ | refine zP ?_ | refine zB ?_ | refine zR ?_ | refine Rem.t Qw ?_ | refine zL ent10 c0 ?_ | refine zG ent10 (fun h => c0) ?_ | refine zL ent11 c1 ?_ | refine zG ent11 (fun h => c1) ?_ | refine zL ent24 k4 ?_ | refine zG ent24 (fun h => k4) ?_ | refine lB ?_ | refine lBA ?_ | refine zK ?_ | refine s1 ?_ | refine sA ?_ | refine zC ?_ | exact True.intro | fail))
    ·have k3 := dmBase_ok p sm (by omega) (by omega)
     have hrl : (List.replicate p.duties.length (AV.v (.int .i64 0))).length = p.duties.length := by simp
     refine fn_run (T := tab) Tryz.func9 rfl Tryz.ntmps9 rfl Tryz.results9 (fun _ => ?_)
     repeat' ((conv => whnf) <;> (first | refine nR (T := tab) ?_ | (refine LK.eff (Eff.mkS (T := tab) (N := p.duties.length) (z := .int .i64 0) rfl rfl rfl rfl (congrArg (fun q : Nat => some (I (q : Int))) hld) (by omega)) ?_ <;> rintro _ _ ⟨A1, B1, C1, rfl, rfl⟩) | refine zM ?_ | refine zW ?_ | intro _ | exact zF | refine Br.tt ?_ | refine Br.ff ?_ | (refine Br.mk (fun h => ?_) (fun h => ?_) <;> (try simp only [sh] at h) <;> try first | (exfalso; omega) | exact absurd trivial h | (simp at h; done)) | refine zA ?_ | refine zN ?_ | refine zO ?_ | refine zP ?_ | refine zB ?_ | refine zR ?_ | refine Rem.t Qw ?_ | refine zL ent10 c0 ?_ | refine zG ent10 (fun h => c0) ?_ | refine zL ent11 c1 ?_ | refine zG ent11 (fun h => c1) ?_ | refine zL ent24 k4 ?_ | refine zG ent24 (fun h => k4) ?_ | refine lB ?_ | refine lBA ?_ | refine zK ?_ | refine s1 ?_ | refine sA ?_ | refine zC ?_ | exact True.intro | fail))
     rename_i b
     (conv => whnf); refine CK.loopK [7, 45, 46, 47, 48, 49, 50, 51, 52, 53, 54, 55, 56, 57, 58, 59, 60] (σ := Nat) (fun d => d ≤ p.duties.length) (fun d => [(45, I d)]) (fun d => [Ro (.slice A1 B1 C1) (fillP ((p.workers.map wkav).length : Int) picks p.duties.length d), .blk b 32 false (pcs p)]) [] (fun d => p.duties.length - d) 0 (Nat.zero_le _) Qy (by
      have e : (fillP ((p.workers.map wkav).length : Int) picks p.duties.length 0).map I = List.replicate p.duties.length (AV.v (.int .i64 0)) := by unfold fillP; rw [List.range_zero, List.map_nil, List.nil_append, List.map_replicate, Nat.sub_zero]
      dsimp only [Ro]
      rw [e]
      exact Qs) ?_
     conv => whnf
     rintro d hd
     have hf1 := fillP_len (m := ((p.workers.map wkav).length : Int)) (picks := picks) hd
     have hf2 : ((fillP ((p.workers.map wkav).length : Int) picks p.duties.length d).map I).length = p.duties.length := by rw [List.length_map, hf1]
     by_cases hdn : d < p.duties.length
     ·have hbd := hb (picks.getD d default) (getD_mem (by omega))
      have hst := set_Id (fillP ((p.workers.map wkav).length : Int) picks p.duties.length d) (d : Int).toNat (picks.getD d default % ((p.workers.map wkav).length : Int))
      repeat' ((conv => whnf) <;> (first | refine LK.stRM (a := (d : Int).toNat) (j := 0) 0 rfl rfl rfl rfl rfl (Nat.zero_le _) (by omega) rfl rfl ?_ | refine iR (T := tab) ?_ | refine nR (T := tab) ?_ | refine zM ?_ | refine zW ?_ | intro _ | exact zF | refine Br.tt ?_ | refine Br.ff ?_ | (refine Br.mk (fun h => ?_) (fun h => ?_) <;> (try simp only [sh] at h) <;> try first | (exfalso; omega) | exact absurd trivial h | (simp at h; done)) | refine zA ?_ | refine zN ?_ | refine zO ?_ | refine zP ?_ | refine zB ?_ | refine zR ?_ | refine Rem.t Qw ?_ | refine lB ?_ | refine lBA ?_ | refine zK ?_ | refine s1 ?_ | refine sA ?_ | refine Kx.nil ?_ | refine Kx.stp rfl rfl Qs ?_ | refine kA ?_ | (refine Kx.frzR 0 rfl ?_ <;> refine kF ?_) | refine kP ?_ | refine k1 ?_ | refine kB ?_ | refine kL ?_ | refine zC ?_ | fail))
      (conv => whnf); (refine Nxt.of (d + 1) [7, 45, 46, 47, 48, 49, 50, 51, 52, 53, 54, 55, 56, 57, 58, 59, 60] Qr Qr Qr ?_ ?_ Qy ?_ <;> (try dsimp only) <;> (try omega))
      rw [hst, Int.toNat_natCast, fillP_set hdn]
      exact Qs
     ·obtain rfl : d = p.duties.length := by omega
      generalize hro : fillP ((p.workers.map wkav).length : Int) picks p.duties.length p.duties.length = ro at *
      have hfu : FullR p ro := by rw [← hro]; exact fillP_full (by rw [hlw]) (by omega)
      have hok : okRo p ro = true := by unfold okRo; rw [hv, hfu.rr]; rfl
      have c6 := oBad_ok p ro sm
      rw [if_pos hok, if_pos hok] at c6
      have hbl : ((badP p ro).map viav).length = (badP p ro).length := by simp
      have hbm : ((baseP p).map sgav).length = (baseP p).length := by simp
      have hb4 := base_len p h7 h20
      have hb5 := badP_le hv hf1
      repeat' ((conv => whnf) <;> (first | (refine LK.frzR 0 rfl ?_ <;> refine LK.see 6 rfl (Sb.row 0 rfl) ?_ <;> refine LK.see 63 rfl (Sb.row 0 rfl) ?_ <;> refine LK.callA ent27 c6 rfl rfl Ql ?_) | refine nR (T := tab) ?_ | refine zM ?_ | refine zW ?_ | intro _ | exact zF | refine Br.tt ?_ | refine Br.ff ?_ | (refine Br.mk (fun h => ?_) (fun h => ?_) <;> (try simp only [sh] at h) <;> try first | (exfalso; omega) | exact absurd trivial h | (simp at h; done)) | refine zA ?_ | refine zN ?_ | refine zO ?_ | refine zP ?_ | refine zB ?_ | refine zR ?_ | refine Rem.t Qw ?_ | refine zL ent16 k3 ?_ | refine zG ent16 (fun h => k3) ?_ | refine lB ?_ | refine lBA ?_ | refine zK ?_ | refine s1 ?_ | refine sA ?_ | refine zC ?_ | fail))
      (conv => whnf); refine CK.loopK [10, 12, 72, 73, 74, 75, 76, 77, 78, 79, 80, 81, 82, 83] (σ := Nat × Bool) (fun s => s.1 ≤ (baseP p).length ∧ s.2 = ((baseP p).take s.1).all fun s => holdsC ro s.cl) (fun ⟨k, f⟩ => [(72, I k), (10, B f)]) (fun _ => []) [] (fun s => (baseP p).length - s.1) (0, true) ⟨Nat.zero_le _, rfl⟩ Qy (by exact List.nil_sublist _) ?_
      conv => whnf
      rintro ⟨k, f⟩ ⟨i1, i2⟩
      simp only at i1 i2
      by_cases hk : k < (baseP p).length
      ·have hpart := base_part (getD_mem hk : (baseP p).getD k default ∈ baseP p)
       have c7 := nholds_ok ((baseP p).getD k default).cl ro (by omega) (by omega)
       repeat' ((conv => whnf) <;> (first | refine zM ?_ | refine zW ?_ | intro _ | exact zF | refine Br.tt ?_ | refine Br.ff ?_ | (refine Br.mk (fun h => ?_) (fun h => ?_) <;> (try simp only [sh] at h) <;> try first | (exfalso; omega) | exact absurd trivial h | (simp at h; done)) | refine zA ?_ | refine zN ?_ | refine zO ?_ | refine zP ?_ | refine zB ?_ | refine zR ?_ | refine Rem.t Qw ?_ | refine zL ent28 c7 ?_ | refine zG ent28 (fun h => c7) ?_ | refine lB ?_ | refine lBA ?_ | refine zK ?_ | refine s1 ?_ | refine sA ?_ | refine zC ?_ | exact True.intro | fail))
       (conv => whnf); (refine Nxt.of ((k + 1, f && holdsC ro ((baseP p).getD k default).cl)) [10, 12, 72, 73, 74, 75, 76, 77, 78, 79, 80, 81, 82, 83] Qr Qr Qr ?_ ?_ Qy Qs <;> (try dsimp only) <;> (try omega))
       refine ⟨hk, ?_⟩
       rw [List.take_succ_eq_append_getElem hk, List.all_append, ← i2, getD_at' hk]
       simp
      ·obtain rfl : k = (baseP p).length := by omega
       rw [List.take_length] at i2
       repeat' ((conv => whnf) <;> (first | refine zM ?_ | refine zW ?_ | intro _ | exact zF | refine Br.tt ?_ | refine Br.ff ?_ | (refine Br.mk (fun h => ?_) (fun h => ?_) <;> (try simp only [sh] at h) <;> try first | (exfalso; omega) | exact absurd trivial h | (simp at h; done)) | refine zA ?_ | refine zN ?_ | refine zO ?_ | refine zP ?_ | refine zB ?_ | refine zR ?_ | refine Rem.t Qw ?_ | refine lB ?_ | refine lBA ?_ | refine zK ?_ | refine s1 ?_ | refine sA ?_ | refine zC ?_ | fail))
       (conv => whnf); refine CK.loopK [4, 14, 86, 87, 88, 89, 90, 91, 92, 93, 94, 95, 96, 97, 98, 99, 100, 101, 102, 103] (σ := Nat) (fun k => k ≤ (badP p ro).length) (fun k => [(86, I k)]) (fun _ => []) [] (fun k => (badP p ro).length - k) 0 (Nat.zero_le _) Qy (by exact List.nil_sublist _) ?_
       conv => whnf
       rintro j hj
       by_cases hjl : j < (badP p ro).length
       ·have hvm : (badP p ro).getD j default ∈ badP p ro := getD_mem hjl
        repeat' ((conv => whnf) <;> (first | refine zM ?_ | refine zW ?_ | intro _ | exact zF | refine Br.tt ?_ | refine Br.ff ?_ | (refine Br.mk (fun h => ?_) (fun h => ?_) <;> (try simp only [sh] at h) <;> try first | (exfalso; omega) | exact absurd trivial h | (simp at h; done)) | refine zA ?_ | refine zN ?_ | refine zO ?_ | refine zP ?_ | refine zB ?_ | refine zR ?_ | refine Rem.t Qw ?_ | refine lB ?_ | refine lBA ?_ | refine zK ?_ | refine s1 ?_ | refine sA ?_ | refine zC ?_ | exact True.intro | fail))
        ·conv => whnf
         refine .out _ (by exact List.nil_sublist _) ⟨congrArg B ?_, rfl⟩
         obtain ⟨s, hs1, hs2⟩ := base_fails hv hfu.rr hvm h.1 h.2
         have hf0 : f = false := by
          rw [i2, List.all_eq_false]
          exact ⟨s, hs1, by rw [hs2]; simp⟩
         rw [hf0]
         rfl
        ·(conv => whnf); (refine Nxt.of (j + 1) [4, 14, 86, 87, 88, 89, 90, 91, 92, 93, 94, 95, 96, 97, 98, 99, 100, 101, 102, 103] Qr Qr Qr ?_ ?_ Qy Qs <;> (try dsimp only) <;> (try omega))
       ·obtain rfl : j = (badP p ro).length := by omega
        repeat' ((conv => whnf) <;> (first | refine zM ?_ | refine zW ?_ | intro _ | exact zF | refine Br.tt ?_ | refine Br.ff ?_ | (refine Br.mk (fun h => ?_) (fun h => ?_) <;> (try simp only [sh] at h) <;> try first | (exfalso; omega) | exact absurd trivial h | (simp at h; done)) | refine zA ?_ | refine zN ?_ | refine zO ?_ | refine zP ?_ | refine zB ?_ | refine zR ?_ | refine Rem.t Qw ?_ | refine lB ?_ | refine lBA ?_ | refine zK ?_ | refine s1 ?_ | refine sA ?_ | refine zC ?_ | exact True.intro | fail))
        conv => whnf
        refine .out _ (by exact List.nil_sublist _) ⟨congrArg B ?_, rfl⟩
        by_cases hb0 : badP p ro = []
        ·have hf1 : f = true := by
          rw [i2, List.all_eq_true]
          exact fun s h => base_holds hv hfu hb0 s h
         rw [hf1]
         simp
        ·have := List.length_pos_iff.2 hb0
         rw [decide_eq_true (by omega)]
         simp
  ·rw [Bool.eq_false_iff.2 hv] at k4
   refine fn_run (T := tab) Tryz.func9 rfl Tryz.ntmps9 rfl Tryz.results9 (fun _ => ?_)
   repeat' ((conv => whnf) <;> (first | refine zM ?_ | refine zW ?_ | intro _ | exact zF | refine Fin.pure ?_ | refine Br.tt ?_ | refine Br.ff ?_ | (refine Br.mk (fun h => ?_) (fun h => ?_) <;> (try simp only [sh] at h) <;> try first | (exfalso; omega) | exact absurd trivial h | (simp at h; done)) | refine zA ?_ | refine zN ?_ | refine zO ?_ | refine zP ?_ | refine zB ?_ | refine zR ?_ | refine Rem.t Qw ?_ | refine zL ent10 c0 ?_ | refine zG ent10 (fun h => c0) ?_ | refine zL ent11 c1 ?_ | refine zG ent11 (fun h => c1) ?_ | refine zL ent24 k4 ?_ | refine zG ent24 (fun h => k4) ?_ | refine lB ?_ | refine lBA ?_ | refine zK ?_ | refine s1 ?_ | refine sA ?_ | refine zC ?_ | exact True.intro | fail))
 ·rw [Bool.eq_false_iff.2 hs] at c1
  refine fn_run (T := tab) Tryz.func9 rfl Tryz.ntmps9 rfl Tryz.results9 (fun _ => ?_)
  repeat' ((conv => whnf) <;> (first | refine zG ent24 (as2 := [.agg (pcs p)]) (r := B true) (fun h => absurd h (by decide)) ?_ | refine zM ?_ | refine zW ?_ | intro _ | exact zF | refine Fin.pure ?_ | refine Br.tt ?_ | refine Br.ff ?_ | (refine Br.mk (fun h => ?_) (fun h => ?_) <;> (try simp only [sh] at h) <;> try first | (exfalso; omega) | exact absurd trivial h | (simp at h; done)) | refine zA ?_ | refine zN ?_ | refine zO ?_ | refine zP ?_ | refine zB ?_ | refine zR ?_ | refine Rem.t Qw ?_ | refine zL ent10 c0 ?_ | refine zG ent10 (fun h => c0) ?_ | refine zL ent11 c1 ?_ | refine zG ent11 (fun h => c1) ?_ | refine lB ?_ | refine lBA ?_ | refine zK ?_ | refine s1 ?_ | refine sA ?_ | refine zC ?_ | exact True.intro | fail))
end Go.Proofs.YtjfnkmlnbaianaaGreat
