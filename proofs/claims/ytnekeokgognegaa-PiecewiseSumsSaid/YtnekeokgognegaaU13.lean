/-
  Walks: PiecewiseSums.
  Conditions: those of each theorem.
-/
import Derived.Test.YtnekeokgognegaaUE
import Derived.Test.YtnekeokgognegaaE5H
namespace Go.Proofs.Ytnekeokgognegaa
open Go.E2 Go.Wage
theorem cut_take (l : List T3) : (l.map tav).take (min (((l.map tav).length : Nat) : Int) 2).toNat = (l.take 2).map tav := by
  rw [List.length_map, ← List.map_take]
  congr 1
  by_cases h : l.length ≤ 2
  · rw [List.take_of_length_le (by omega), List.take_of_length_le h]
  · rw [show (min ((l.length : Nat) : Int) 2).toNat = 2 by omega]
theorem ones_t3 : ∀ q : List T3, ((q.map tav).flatMap AV.cells).all AV.one = true
  | [] => rfl
  | t :: q => by rw [List.map_cons, List.flatMap_cons, List.all_append, ones_t3 q]; rfl
theorem ones_cut (n : Nat) (q : List T3) : (((q.map tav).take n).flatMap AV.cells).all AV.one = true := by rw [← List.map_take]; exact ones_t3 _
theorem len_cut (q : List T3) : ((q.map tav).take (min (((q.map tav).length : Nat) : Int) 2).toNat).length ≤ 2 := by rw [cut_take, List.length_map, List.length_take]; omega
theorem argsR_bd {S : List Int} {y z c : Int} (hS : ∀ s ∈ S, 0 ≤ s ∧ s ≤ 1000000000000) (hy : 0 ≤ y ∧ y ≤ 1000000000000) (hz : 0 ≤ z) {k : Nat} (h : c ∈ argsR S y z k) : 0 ≤ c ∧ c ≤ 1000000000000 := by
  unfold argsR at h
  rw [List.mem_append, List.mem_flatMap] at h
  rcases h with h | ⟨s, hs, h⟩
  · simp only [List.mem_cons, List.not_mem_nil, or_false] at h
    omega
  · have := hS s (List.mem_of_mem_take hs)
    simp only [List.mem_cons, List.not_mem_nil, or_false] at h
    omega
set_option maxRecDepth 4000 in
set_option maxHeartbeats 16000000 in
theorem qSums_ok (l m : List T3) (den x : Int) (hl : ∀ t ∈ l, T3ok t) (hlen : l.length ≤ 9223372036854775807) (hm : ∀ t ∈ m, T3ok t) (hmlen : m.length ≤ 9223372036854775807) (hd : inI den) (hx : inI x) :
    FnA Try.prog 4 [.sl 3 (l.map tav), .sl 3 (m.map tav), I den, I x] (B true) := by
  have c0 := qHead_ok
  have c1 := qMade_ok den l hd hl hlen
  have c2 := qMade_ok den m hd hm hmlen
  have hhl : (m.take 2 ++ l.take 2).length ≤ 4 := by rw [List.length_append, List.length_take, List.length_take]; omega
  have c3 := qMade_ok den (m.take 2 ++ l.take 2) hd (fun t ht => by
    rcases List.mem_append.1 ht with h | h
    · exact hm t (List.mem_of_mem_take h)
    · exact hl t (List.mem_of_mem_take h)) (by omega)
  have zf := made_sz den l (made_len den l).1
  have zg := made_sz den m (made_len den m).1
  have zh := made_sz den (m.take 2 ++ l.take 2) (k := 4) (by have := (made_len den (m.take 2 ++ l.take 2)).2; omega)
  rw [List.map_append, ← cut_take, ← cut_take] at c3
  generalize denM den = D at *
  generalize madeM den l = f at *
  generalize madeM den m = g at *
  generalize madeM den (m.take 2 ++ l.take 2) = hh at *
  have zs := zf.sum zg (by omega) (by omega)
  have zu := zs.sum zh (by omega) (by omega)
  have zgh := zg.sum zh (by omega) (by omega)
  have zv := zf.sum zgh (by omega) (by omega)
  have a1 := add_val zf.v zg.v zs.v
  have a2 := add_val zg.v zf.v (by rw [sum_comm zf.v zg.v]; exact zs.v)
  rw [sum_comm zf.v zg.v] at a2
  have a3 := add_val zs.v zh.v zu.v
  have a4 := add_val zg.v zh.v zgh.v
  have a5 := add_val zf.v zgh.v zv.v
  have a6 := r5Same_ok D D (sumPs f g) (sumPs f g) (by have := zs.len; omega) (by have := zs.len; omega)
  rw [decide_eq_true ⟨rfl, rfl⟩] at a6
  have c6 := qArgs_ok D D x f g hx zf.v zg.v
  have hA : ∀ c ∈ argsR (startsR f g) (pickR x 1000000000001) (pickR x 1000) (startsR f g).length, 0 ≤ c ∧ c ≤ 1000000000000 := fun c hc => by
    have g1 := pickR_bd x (n := 1000000000001) (by omega)
    have g2 := pickR_bd x (n := 1000) (by omega)
    exact argsR_bd (fun s hs => starts_bd zf.v (.inr zg.v) hs) (by omega) (by omega) hc
  have hAl := argsR_len (startsR f g) (pickR x 1000000000001) (pickR x 1000) (startsR f g).length
  have hSl := starts_len (ps := f) (qs := g)
  have lf := zf.len
  have lg := zg.len
  generalize argsR (startsR f g) (pickR x 1000000000001) (pickR x 1000) (startsR f g).length = ALL at *
  have hns := fun c h0 h1 => sum_num (c := c) zf.v zg.v h0 h1
  have hnu := fun c h0 h1 => sum_num (c := c) zs.v zh.v h0 h1
  have hngh := fun c h0 h1 => sum_num (c := c) zg.v zh.v h0 h1
  have hnv := fun c h0 h1 => sum_num (c := c) zf.v zgh.v h0 h1
  have es := fun c h0 h1 => eval_val (c := c) zs.v h0 h1
  have eu := fun c h0 h1 => eval_val (c := c) zu.v h0 h1
  have ev := fun c h0 h1 => eval_val (c := c) zv.v h0 h1
  have bs := zs.bd
  have bu := zu.bd
  have bv := zv.bd
  generalize sumPs f (sumPs g hh) = v at *
  generalize sumPs (sumPs f g) hh = u at *
  generalize sumPs g hh = gh at *
  generalize sumPs f g = s at *
  have hml : (m.map tav).length = m.length := by simp
  have hll : (l.map tav).length = l.length := by simp
  have hALm : (ALL.map I).length = ALL.length := by simp
  have om := len_cut m
  have ol := len_cut l
  refine fn_run (T := tab) Try.func4 rfl Try.ntmps4 rfl Try.results4 (fun _ => ?_)
  repeat' ((conv => whnf) <;> (first | refine zM ?_ | refine zW ?_ | intro _ | exact zF | refine Br.tt ?_ | refine Br.ff ?_ | (refine Br.mk (fun h => ?_) (fun h => ?_) <;> (try simp only [sh] at h) <;> try first | (exfalso; omega) | exact absurd trivial h | (simp at h; done)) | refine zA ?_ | refine zN ?_ | refine zO ?_ | refine zP ?_ | refine zB ?_ | refine zL ent9 c0 ?_ | refine zG ent9 (fun h => c0) ?_ | refine zL ent10 c1 ?_ | refine zG ent10 (fun h => c1) ?_ | refine zL ent10 c2 ?_ | refine zG ent10 (fun h => c2) ?_ | refine lB ?_ | refine lBA ?_ | refine zK ?_ | refine s1 ?_ | refine sA ?_ | refine pS ?_ | refine LK.gr (Gr.bslV rfl rfl rfl rfl) ?_ | refine Ask.of (Gr.bslV rfl rfl rfl rfl) ?_ | refine Kx.nil ?_ | refine Kx.stp rfl rfl Qs ?_ | refine kA ?_ | refine kS ?_ | (refine Kx.frzR 0 rfl ?_ <;> refine kF ?_) | refine kP ?_ | refine k1 ?_ | refine kB ?_ | refine kL ?_ | refine zC ?_ | refine zD ?_ | fail))
  rename_i cx b10 b11
  conv => whnf
  refine CK.cutK (β := Nat) (fun b => [(12, .v (.pointer (some ⟨b, 0, none⟩))), (11, .v (.pointer (some ⟨b11, 0, none⟩))), (10, .v (.pointer (some ⟨b10, 0, none⟩))), (9, B true), (3, I x)]) (fun b => [.blk b 24 false (favC D hh), .blk b11 24 false (favC D g), .blk b10 24 false (favC D f)]) (fun b12 => ?_) ?_
  · repeat' ((conv => whnf) <;> (first | refine zM ?_ | refine zW ?_ | intro _ | exact zF | refine Br.tt ?_ | refine Br.ff ?_ | (refine Br.mk (fun h => ?_) (fun h => ?_) <;> (try simp only [sh] at h) <;> try first | (exfalso; omega) | exact absurd trivial h | (simp at h; done)) | refine zA ?_ | refine zN ?_ | refine zO ?_ | refine zP ?_ | refine zB ?_ | refine zL ent11 a1 ?_ | refine zG ent11 (fun h => a1) ?_ | refine zL ent11 a2 ?_ | refine zG ent11 (fun h => a2) ?_ | refine zL ent11 a3 ?_ | refine zG ent11 (fun h => a3) ?_ | refine zL ent11 a4 ?_ | refine zG ent11 (fun h => a4) ?_ | refine zL ent11 a5 ?_ | refine zG ent11 (fun h => a5) ?_ | refine zL ent18 a6 ?_ | refine zG ent18 (fun h => a6) ?_ | (refine LK.call ent26 (c6) rfl rfl Ql (fun _ _ hcall => ?_) <;> obtain ⟨v0, rfl, rfl⟩ := hcall) | refine lB ?_ | refine lBA ?_ | refine zK ?_ | refine s1 ?_ | refine sA ?_ | refine pS ?_ | refine LK.gr (Gr.bslV rfl rfl rfl rfl) ?_ | refine Ask.of (Gr.bslV rfl rfl rfl rfl) ?_ | refine zC ?_ | refine zD ?_ | fail))
    rename_i b13 b15 b17 b19 b21
    simp only [eq_self, decide_true, Bool.and_true]
    repeat' ((conv => whnf) <;> (first | refine nR (T := tab) ?_ | refine zM ?_ | refine zW ?_ | intro _ | exact zF | refine Br.tt ?_ | refine Br.ff ?_ | (refine Br.mk (fun h => ?_) (fun h => ?_) <;> (try simp only [sh] at h) <;> try first | (exfalso; omega) | exact absurd trivial h | (simp at h; done)) | refine zA ?_ | refine zN ?_ | refine zO ?_ | refine zP ?_ | refine zB ?_ | refine lB ?_ | refine lBA ?_ | refine zK ?_ | refine s1 ?_ | refine sA ?_ | refine zC ?_ | fail))
    (conv => whnf); refine CK.loopK [9, 24, 25, 26, 27, 28, 29, 30, 31, 32, 33, 34, 35, 36, 37, 38, 39, 116, 117, 118, 119, 120, 121, 122, 123, 124, 125, 126, 127, 128, 129, 130, 131, 132, 133, 134, 135, 136, 137, 138, 139, 140, 141, 142, 143, 144, 145, 146, 147, 148, 149, 150, 151, 152, 153, 154, 155, 156, 157, 158, 159, 160, 161, 162, 163, 164, 165, 166, 167, 168, 169, 170, 171, 172, 173, 174, 175, 176, 177, 178, 179, 180, 181, 182, 183, 184, 185, 186, 187, 188, 189] (σ := Nat) (fun k => k ≤ ALL.length) (fun k => [(9, B true), (116, I k)]) (fun _ => []) [.row v0 3 1 0 false (ALL.map I), .blk b21 24 false (favC D v), .blk b17 24 false (favC D u), .blk b13 24 false (favC D s), .blk b11 24 false (favC D g), .blk b10 24 false (favC D f)] (fun k => ALL.length - k) 0 (Nat.zero_le _) Qy (by exact Qs) ?_
    conv => whnf
    rintro k i2
    by_cases hk2 : k < ALL.length
    · have hcb := hA (ALL.getD k default) (List.mem_of_getElem? (gAtD hk2))
      have e1 := eval_val zf.v hcb.1 hcb.2
      have e2 := eval_val zg.v hcb.1 hcb.2
      have e3 := es _ hcb.1 hcb.2
      have e4 := eu _ hcb.1 hcb.2
      have e5 := ev _ hcb.1 hcb.2
      rw [hns _ hcb.1 hcb.2] at e3
      rw [hnu _ hcb.1 hcb.2, hns _ hcb.1 hcb.2] at e4
      rw [hnv _ hcb.1 hcb.2, hngh _ hcb.1 hcb.2, ← Int.add_assoc] at e5
      have q1 := zf.bd _ hcb.1 hcb.2
      have q2 := zg.bd _ hcb.1 hcb.2
      repeat' ((conv => whnf) <;> (first | refine lM0 (T := tab) ?_ | refine iR (T := tab) ?_ | refine zM ?_ | refine zW ?_ | intro _ | exact zF | refine Br.tt ?_ | refine Br.ff ?_ | (refine Br.mk (fun h => ?_) (fun h => ?_) <;> (try simp only [sh] at h) <;> try first | (exfalso; omega) | exact absurd trivial h | (simp at h; done)) | refine zA ?_ | refine zN ?_ | refine zO ?_ | refine zP ?_ | refine zB ?_ | refine zL ent22 e1 ?_ | refine zG ent22 (fun h => e1) ?_ | refine zL ent22 e2 ?_ | refine zG ent22 (fun h => e2) ?_ | refine zL ent22 e3 ?_ | refine zG ent22 (fun h => e3) ?_ | refine zL ent22 e4 ?_ | refine zG ent22 (fun h => e4) ?_ | refine zL ent22 e5 ?_ | refine zG ent22 (fun h => e5) ?_ | refine lB ?_ | refine lBA ?_ | refine zK ?_ | refine s1 ?_ | refine sA ?_ | refine zC ?_ | fail))
      simp only [eq_self, decide_true, Bool.and_true]
      (conv => whnf); (refine Nxt.of (k + 1) [9, 24, 25, 26, 27, 28, 29, 30, 31, 32, 33, 34, 35, 36, 37, 38, 39, 116, 117, 118, 119, 120, 121, 122, 123, 124, 125, 126, 127, 128, 129, 130, 131, 132, 133, 134, 135, 136, 137, 138, 139, 140, 141, 142, 143, 144, 145, 146, 147, 148, 149, 150, 151, 152, 153, 154, 155, 156, 157, 158, 159, 160, 161, 162, 163, 164, 165, 166, 167, 168, 169, 170, 171, 172, 173, 174, 175, 176, 177, 178, 179, 180, 181, 182, 183, 184, 185, 186, 187, 188, 189] Qr Qr Qr ?_ ?_ Qy Qs <;> (try dsimp only) <;> (try omega))
    · repeat' ((conv => whnf) <;> (first | refine zM ?_ | refine zW ?_ | intro _ | exact zF | refine Fin.pure ?_ | refine Br.tt ?_ | refine Br.ff ?_ | (refine Br.mk (fun h => ?_) (fun h => ?_) <;> (try simp only [sh] at h) <;> try first | (exfalso; omega) | exact absurd trivial h | (simp at h; done)) | refine zA ?_ | refine zN ?_ | refine zO ?_ | refine zP ?_ | refine zB ?_ | refine lB ?_ | refine lBA ?_ | refine zK ?_ | refine s1 ?_ | refine sA ?_ | refine zC ?_ | fail))
  · refine CK.anyA (id := 4) [0, 2, 3, 4, 5, 6, 8, 9, 10, 11, 12] [1, 7, 13, 14] 15 [16] _ (List.Sublist.refl _) (by exact Qk) ?_
    repeat' ((conv => whnf) <;> (first | refine zM ?_ | refine zW ?_ | intro _ | exact zF | refine Br.tt ?_ | refine Br.ff ?_ | (refine Br.mk (fun h => ?_) (fun h => ?_) <;> (try simp only [sh] at h) <;> try first | (exfalso; omega) | exact absurd trivial h | (simp at h; done)) | refine zA ?_ | refine zN ?_ | refine zO ?_ | refine zP ?_ | refine zB ?_ | refine zL ent10 c3 ?_ | refine zG ent10 (fun h => c3) ?_ | refine lB ?_ | refine lBA ?_ | refine zK ?_ | refine s1 ?_ | refine sA ?_ | refine pS ?_ | refine LK.gr (Gr.bslV rfl rfl rfl rfl) ?_ | refine Ask.of (Gr.bslV rfl rfl rfl rfl) ?_ | refine Kx.nil ?_ | refine Kx.stp rfl rfl Qs ?_ | refine kA ?_ | refine kS ?_ | (refine Kx.frzR 0 rfl ?_ <;> refine kF ?_) | refine kP ?_ | refine k1 ?_ | refine kB ?_ | refine kL ?_ | refine zC ?_ | refine zD ?_ | fail))
    conv => whnf
    refine KxI.eff rfl (Eff.mkC (T := tab) (N := 4) rfl rfl rfl rfl (by omega)) (by rintro _ _ ⟨A, k, cp, rfl, rfl⟩; exact Qs) ?_ ?_
    · repeat' ((conv => whnf) <;> (first | (refine Kx.frzR 0 rfl ?_ <;> refine Kx.stpS 14 60 rfl Qs rfl (Sb.row 0 rfl) ?_) | (refine Kx.eff rfl (Eff.appS (T := tab) 0 rfl rfl rfl rfl rfl Qb (ones_cut _ _) (by simp only [List.length_append, List.length_nil]; omega)) (by rintro _ _ ⟨A, k, cp, rfl, rfl⟩; exact Qs) ?_ <;> rintro _ _ ⟨A, k, cp, rfl, rfl⟩) | (refine Kx.eff rfl (Eff.mkC (T := tab) (N := 4) rfl rfl rfl rfl (by omega)) (by rintro _ _ ⟨A, k, cp, rfl, rfl⟩; exact Qs) ?_ <;> rintro _ _ ⟨A, k, cp, rfl, rfl⟩) | refine zM ?_ | refine zW ?_ | intro _ | exact zF | refine Br.tt ?_ | refine Br.ff ?_ | (refine Br.mk (fun h => ?_) (fun h => ?_) <;> (try simp only [sh] at h) <;> try first | (exfalso; omega) | exact absurd trivial h | (simp at h; done)) | refine zA ?_ | refine zN ?_ | refine zO ?_ | refine zP ?_ | refine zB ?_ | refine zL ent10 c3 ?_ | refine zG ent10 (fun h => c3) ?_ | refine lB ?_ | refine lBA ?_ | refine zK ?_ | refine s1 ?_ | refine sA ?_ | refine pS ?_ | refine LK.gr (Gr.bslV rfl rfl rfl rfl) ?_ | refine Ask.of (Gr.bslV rfl rfl rfl rfl) ?_ | refine Kx.nil ?_ | refine Kx.stp rfl rfl Qs ?_ | refine kA ?_ | refine kS ?_ | (refine Kx.frzR 0 rfl ?_ <;> refine kF ?_) | refine kP ?_ | refine k1 ?_ | refine kB ?_ | refine kL ?_ | refine zC ?_ | refine zD ?_ | fail))
      conv => whnf
      exact ⟨rfl, Cut.at _ Qy Qs⟩
    rintro _ _ ⟨A, k, cp, rfl, rfl⟩
    conv => whnf
    refine KxI.eff rfl (Eff.appS (T := tab) 0 rfl rfl rfl rfl rfl Qb (ones_cut _ _) (by simp only [List.length_append, List.length_nil]; omega)) (by rintro _ _ ⟨A, k, cp, rfl, rfl⟩; exact Qs) ?_ ?_
    · repeat' ((conv => whnf) <;> (first | (refine Kx.frzR 1 rfl ?_ <;> refine Kx.stpS 14 60 rfl Qs rfl (Sb.row 1 rfl) ?_) | (refine Kx.eff rfl (Eff.appS (T := tab) 1 rfl rfl rfl rfl rfl Qb (ones_cut _ _) (by simp only [List.length_append, List.length_nil]; omega)) (by rintro _ _ ⟨A, k, cp, rfl, rfl⟩; exact Qs) ?_ <;> rintro _ _ ⟨A, k, cp, rfl, rfl⟩) | refine zM ?_ | refine zW ?_ | intro _ | exact zF | refine Br.tt ?_ | refine Br.ff ?_ | (refine Br.mk (fun h => ?_) (fun h => ?_) <;> (try simp only [sh] at h) <;> try first | (exfalso; omega) | exact absurd trivial h | (simp at h; done)) | refine zA ?_ | refine zN ?_ | refine zO ?_ | refine zP ?_ | refine zB ?_ | refine zL ent10 c3 ?_ | refine zG ent10 (fun h => c3) ?_ | refine lB ?_ | refine lBA ?_ | refine zK ?_ | refine s1 ?_ | refine sA ?_ | refine pS ?_ | refine LK.gr (Gr.bslV rfl rfl rfl rfl) ?_ | refine Ask.of (Gr.bslV rfl rfl rfl rfl) ?_ | refine Kx.nil ?_ | refine Kx.stp rfl rfl Qs ?_ | refine kA ?_ | refine kS ?_ | (refine Kx.frzR 0 rfl ?_ <;> refine kF ?_) | refine kP ?_ | refine k1 ?_ | refine kB ?_ | refine kL ?_ | refine zC ?_ | refine zD ?_ | fail))
      conv => whnf
      exact ⟨rfl, Cut.at _ Qy Qs⟩
    rintro _ _ ⟨A2, k2, cp2, rfl, rfl⟩
    conv => whnf
    refine KxI.eff rfl (Eff.appS (T := tab) 0 rfl rfl rfl rfl rfl Qb (ones_cut _ _) (by simp only [List.length_append, List.length_nil]; omega)) (by rintro _ _ ⟨A, k, cp, rfl, rfl⟩; exact Qs) ?_ ?_
    · repeat' ((conv => whnf) <;> (first | (refine Kx.frzR 1 rfl ?_ <;> refine Kx.stpS 14 60 rfl Qs rfl (Sb.row 1 rfl) ?_) | (refine Kx.eff rfl (Eff.appS (T := tab) 1 rfl rfl rfl rfl rfl Qb (ones_cut _ _) (by simp only [List.length_append, List.length_nil]; omega)) (by rintro _ _ ⟨A, k, cp, rfl, rfl⟩; exact Qs) ?_ <;> rintro _ _ ⟨A, k, cp, rfl, rfl⟩) | refine zM ?_ | refine zW ?_ | intro _ | exact zF | refine Br.tt ?_ | refine Br.ff ?_ | (refine Br.mk (fun h => ?_) (fun h => ?_) <;> (try simp only [sh] at h) <;> try first | (exfalso; omega) | exact absurd trivial h | (simp at h; done)) | refine zA ?_ | refine zN ?_ | refine zO ?_ | refine zP ?_ | refine zB ?_ | refine zL ent10 c3 ?_ | refine zG ent10 (fun h => c3) ?_ | refine lB ?_ | refine lBA ?_ | refine zK ?_ | refine s1 ?_ | refine sA ?_ | refine pS ?_ | refine LK.gr (Gr.bslV rfl rfl rfl rfl) ?_ | refine Ask.of (Gr.bslV rfl rfl rfl rfl) ?_ | refine Kx.nil ?_ | refine Kx.stp rfl rfl Qs ?_ | refine kA ?_ | refine kS ?_ | (refine Kx.frzR 0 rfl ?_ <;> refine kF ?_) | refine kP ?_ | refine k1 ?_ | refine kB ?_ | refine kL ?_ | refine zC ?_ | refine zD ?_ | fail))
      conv => whnf
      exact ⟨rfl, Cut.at _ Qy Qs⟩
    rintro _ _ ⟨A3, k3, cp3, rfl, rfl⟩
    conv => whnf
    refine KxI.frzR 0 rfl ?_
    refine KxI.stpS 14 60 rfl Qs rfl (Sb.row 0 rfl) ?_ ?_
    · repeat' ((conv => whnf) <;> (first | (refine Kx.frzR 1 rfl ?_ <;> refine Kx.stpS 14 60 rfl Qs rfl (Sb.row 1 rfl) ?_) | refine zM ?_ | refine zW ?_ | intro _ | exact zF | refine Br.tt ?_ | refine Br.ff ?_ | (refine Br.mk (fun h => ?_) (fun h => ?_) <;> (try simp only [sh] at h) <;> try first | (exfalso; omega) | exact absurd trivial h | (simp at h; done)) | refine zA ?_ | refine zN ?_ | refine zO ?_ | refine zP ?_ | refine zB ?_ | refine zL ent10 c3 ?_ | refine zG ent10 (fun h => c3) ?_ | refine lB ?_ | refine lBA ?_ | refine zK ?_ | refine s1 ?_ | refine sA ?_ | refine pS ?_ | refine LK.gr (Gr.bslV rfl rfl rfl rfl) ?_ | refine Ask.of (Gr.bslV rfl rfl rfl rfl) ?_ | refine Kx.nil ?_ | refine Kx.stp rfl rfl Qs ?_ | refine kA ?_ | refine kS ?_ | (refine Kx.frzR 0 rfl ?_ <;> refine kF ?_) | refine kP ?_ | refine k1 ?_ | refine kB ?_ | refine kL ?_ | refine zC ?_ | refine zD ?_ | fail))
      conv => whnf
      exact ⟨rfl, Cut.at _ Qy Qs⟩
    repeat' ((conv => whnf) <;> (first | refine zM ?_ | refine zW ?_ | intro _ | exact zF | refine Br.tt ?_ | refine Br.ff ?_ | (refine Br.mk (fun h => ?_) (fun h => ?_) <;> (try simp only [sh] at h) <;> try first | (exfalso; omega) | exact absurd trivial h | (simp at h; done)) | refine zA ?_ | refine zN ?_ | refine zO ?_ | refine zP ?_ | refine zB ?_ | refine zL ent10 c3 ?_ | refine zG ent10 (fun h => c3) ?_ | refine lB ?_ | refine lBA ?_ | refine zK ?_ | refine s1 ?_ | refine sA ?_ | refine pS ?_ | refine LK.gr (Gr.bslV rfl rfl rfl rfl) ?_ | refine Ask.of (Gr.bslV rfl rfl rfl rfl) ?_ | refine Kx.nil ?_ | refine Kx.stp rfl rfl Qs ?_ | refine kA ?_ | refine kS ?_ | (refine Kx.frzR 0 rfl ?_ <;> refine kF ?_) | refine kP ?_ | refine k1 ?_ | refine kB ?_ | refine kL ?_ | refine zC ?_ | refine zD ?_ | fail))
    conv => whnf
    refine KxI.stop ?_
    repeat' ((conv => whnf) <;> (first | refine zM ?_ | refine zW ?_ | intro _ | exact zF | refine Br.tt ?_ | refine Br.ff ?_ | (refine Br.mk (fun h => ?_) (fun h => ?_) <;> (try simp only [sh] at h) <;> try first | (exfalso; omega) | exact absurd trivial h | (simp at h; done)) | refine zA ?_ | refine zN ?_ | refine zO ?_ | refine zP ?_ | refine zB ?_ | refine zL ent10 c3 ?_ | refine zG ent10 (fun h => c3) ?_ | refine lB ?_ | refine lBA ?_ | refine zK ?_ | refine s1 ?_ | refine sA ?_ | refine pS ?_ | refine LK.gr (Gr.bslV rfl rfl rfl rfl) ?_ | refine Ask.of (Gr.bslV rfl rfl rfl rfl) ?_ | refine Kx.nil ?_ | refine Kx.stp rfl rfl Qs ?_ | refine kA ?_ | refine kS ?_ | (refine Kx.frzR 0 rfl ?_ <;> refine kF ?_) | refine kP ?_ | refine k1 ?_ | refine kB ?_ | refine kL ?_ | refine zC ?_ | refine zD ?_ | fail))
    conv => whnf
    exact ⟨rfl, Cut.at _ Qy Qs⟩
end Go.Proofs.Ytnekeokgognegaa
