/-
  Walks: PiecewiseMatchesReference.
  Conditions: those of each theorem.
-/
import Derived.Test.YtnekeokgognegaaU17
import Derived.Test.YtnekeokgognegaaU19
namespace Go.Proofs.Ytnekeokgognegaa
open Go.E2 Go.Wage
abbrev Fnc := Int × List Pc
def parv (p : Fnc × Fnc) : AV := .agg [I p.1.1, .sl 3 (p.1.2.map pav), I p.2.1, .sl 3 (p.2.2.map pav)]
theorem chk_len (d : Int) (ps : List Pc) : (chkR d ps).1.2.length ≤ 64 := by
  unfold chkR
  split
  · simp
  · split
    · dsimp only; omega
    · simp
theorem addG_len (d : Int) (ps : List Pc) (e : Int) (qs : List Pc) : (addG d ps e qs).1.2.length ≤ 64 := by
  unfold addG
  split
  · exact chk_len _ _
  · simp
theorem lstG_len (d : Int) (ps : List Pc) (e : Int) (qs : List Pc) : (lstG d ps e qs).1.2.length ≤ 64 := by
  unfold lstG
  split
  · exact chk_len _ _
  · simp
theorem ins_le : ∀ (l : List Sp) (a b : Int), (ins a b l).length ≤ l.length + 1
  | [], a, b => by simp [ins]
  | s :: l, a, b => by
    unfold ins
    split
    · simp
    · split
      · have := ins_le l a b
        simp only [List.length_cons]
        omega
      · have := ins_le l (min a s.1) (max b s.2)
        simp only [List.length_cons]
        omega
theorem nrm_le : ∀ l : List Sp, (nrm l).length ≤ l.length
  | [] => by simp [nrm]
  | s :: l => by
    have h := nrm_le l
    unfold nrm
    split
    · have := ins_le (nrm l) s.1 s.2
      simp only [List.length_cons]
      omega
    · simp only [List.length_cons]
      omega
theorem whG_len (d : Int) (ps : List Pc) (low high : Int) : (whG d ps low high).1.length ≤ 64 := by
  unfold whG
  split
  · rename_i hv
    split
    · have h1 := nrm_le (fndR d low high ps (spsR ps []).length)
      have h2 := fnd_len (den := d) (low := low) (high := high) (ps := ps) (spsR ps []).length
      have h3 := sps_len ps []
      rw [starts_one hv, List.length_map] at h3
      have h4 := valid_parts hv
      dsimp only
      omega
    · simp
  · simp
set_option maxRecDepth 4000 in
set_option maxHeartbeats 16000000 in
theorem qMatches_ok (df dg : Int) (f g : List Pc) (l m : List T3) (n0 n1 n2 n3 : Int) (hf : f.length ≤ 9223372036854775807) (hg : g.length ≤ 9223372036854775807) (hl : ∀ t ∈ l, T3ok t) (hlen : l.length ≤ 9223372036854775807) (hm : ∀ t ∈ m, T3ok t) (hmlen : m.length ≤ 9223372036854775807)
    (i0 : inI n0) (i1 : inI n1) (i2 : inI n2) (i3 : inI n3) :
    FnA Try.prog 3 [fav df f, fav dg g, .sl 3 (l.map tav), .sl 3 (m.map tav), .agg [I n0, I n1, I n2, I n3]] (B true) := by
  have c0 := qHead_ok
  have hfl : (f.map pav).length = f.length := by simp
  have hgl : (g.map pav).length = g.length := by simp
  by_cases h70 : 70 < f.length ∨ 70 < g.length
  · refine fn_run (T := tab) Try.func3 rfl Try.ntmps3 rfl Try.results3 (fun _ => ?_)
    repeat' ((conv => whnf) <;> (first | refine zM ?_ | refine zW ?_ | intro _ | exact zF | refine Fin.pure ?_ | refine Br.tt ?_ | refine Br.ff ?_ | (refine Br.mk (fun h => ?_) (fun h => ?_) <;> (try simp only [sh] at h) <;> try first | (exfalso; omega) | exact absurd trivial h | (simp at h; done)) | refine zA ?_ | refine zN ?_ | refine zO ?_ | refine zP ?_ | refine zB ?_ | refine zL ent9 c0 ?_ | refine zG ent9 (fun h => c0) ?_ | refine lB ?_ | refine lBA ?_ | refine zK ?_ | refine s1 ?_ | refine sA ?_ | refine zC ?_ | exact True.intro | fail))
  · have c1 := qMade_ok n0 l i0 hl hlen
    have c2 := qMade_ok n0 m i0 hm hmlen
    have la := (made_len n0 l).1
    have lb := (made_len n0 m).1
    generalize denM n0 = D at *
    generalize madeM n0 l = a at *
    generalize madeM n0 m = b at *
    have p1 := pick_ok n1 1000000 i1 (by omega)
    have p2 := pick_ok n2 1000000 i2 (by omega)
    have p3 := pick_ok n3 1000000000001 i3 (by omega)
    have p4 := pick_ok n3 1000 i3 (by omega)
    generalize pickR n1 1000000 = y1 at *
    generalize pickR n2 1000000 = y2 at *
    generalize pickR n3 1000000000001 = y3 at *
    generalize pickR n3 1000 = y4 at *
    refine fn_run (T := tab) Try.func3 rfl Try.ntmps3 rfl Try.results3 (fun _ => ?_)
    repeat' ((conv => whnf) <;> (first | refine zM ?_ | refine zW ?_ | intro _ | exact zF | refine Br.tt ?_ | refine Br.ff ?_ | (refine Br.mk (fun h => ?_) (fun h => ?_) <;> (try simp only [sh] at h) <;> try first | (exfalso; omega) | exact absurd trivial h | (simp at h; done)) | refine zA ?_ | refine zN ?_ | refine zO ?_ | refine zP ?_ | refine zB ?_ | refine Ask.idxAB rfl rfl rfl Qw ?_ | refine zL ent9 c0 ?_ | refine zG ent9 (fun h => c0) ?_ | refine zL ent10 c1 ?_ | refine zG ent10 (fun h => c1) ?_ | refine zL ent10 c2 ?_ | refine zG ent10 (fun h => c2) ?_ | refine lB ?_ | refine lBA ?_ | refine zK ?_ | refine s1 ?_ | refine sA ?_ | refine pS ?_ | refine LK.gr (Gr.bslV rfl rfl rfl rfl) ?_ | refine Ask.of (Gr.bslV rfl rfl rfl rfl) ?_ | refine zC ?_ | refine zD ?_ | exact True.intro | fail))
    have hl3 : ([parv ((df, f), (dg, g)), parv ((D, a), (D, b)), parv ((df, f), (D, a))] : List AV).length = 3 := rfl
    have hl4 : ([I n3, I y3, I y4] : List AV).length = 3 := rfl
    dsimp only [parv] at hl3
    (conv => whnf); refine CK.loopK [11, 15, 16, 17, 18, 19, 20, 21, 22, 23, 24, 25, 26, 27, 28, 29, 30, 31, 33, 34, 35, 36, 37, 38, 39, 40, 41, 42, 43, 44, 76, 77, 78, 79, 80, 81, 82, 83, 84, 85, 86, 87, 88, 89, 90, 91, 92, 93, 94, 95, 96, 97, 98, 99, 100, 101, 102, 103, 104, 105, 106, 107, 108, 109, 110, 111, 112, 113, 114, 115, 116, 117, 118, 119, 120, 121, 122, 123, 124, 125, 126, 127, 128, 129, 130, 131, 132, 133, 134, 135, 136, 137, 138, 139, 140, 141, 142, 143, 144, 145, 146, 147, 148, 149, 150, 151, 152, 153, 154, 155, 156, 157, 158, 159, 160, 161, 162, 163, 164, 165, 166, 167, 168, 169, 170, 171, 172, 173, 174, 175, 176, 177, 178, 179, 180, 181, 182, 183, 184, 185, 186, 187, 188, 189, 190, 191, 192, 193, 194, 195, 196, 197, 198, 199, 200, 201, 202, 203, 204, 205, 206, 207, 208, 209, 210, 211, 212, 213, 214, 215, 216, 217, 218, 219, 220, 221, 222, 223, 224, 225, 226, 227, 228, 229, 230, 231, 232, 233, 234, 235, 236, 237, 238, 239, 240, 241, 242, 243, 244, 245, 246, 247, 248, 249, 250, 251, 252, 253, 254, 255, 256, 257, 258, 259, 260, 261, 262, 263, 264, 265, 266, 267, 268, 269, 270, 271, 272, 273, 274, 275, 276, 277, 278, 279, 280, 281, 282, 283, 284] (σ := Nat) (fun k => k ≤ 3) (fun k => [(11, B true), (76, I k)]) (fun _ => []) _ (fun k => 3 - k) 0 (by omega) Qy Qs ?_
    conv => whnf
    rintro k ik
    by_cases hk : k < 3
    · obtain ⟨⟨⟨d, ps⟩, e, qs⟩, hel, hps, hqs⟩ : ∃ P : Fnc × Fnc, ([parv ((df, f), (dg, g)), parv ((D, a), (D, b)), parv ((df, f), (D, a))] : List AV)[(k : Int).toNat]? = some (parv P) ∧ P.1.2.length ≤ 70 ∧ P.2.2.length ≤ 70 := by
        rcases (show k = 0 ∨ k = 1 ∨ k = 2 by omega) with rfl | rfl | rfl
        · exact ⟨_, rfl, by dsimp only; omega, by dsimp only; omega⟩
        · exact ⟨_, rfl, by dsimp only; omega, by dsimp only; omega⟩
        · exact ⟨_, rfl, by dsimp only; omega, by dsimp only; omega⟩
      dsimp only [parv] at hel hps hqs
      have d1 := pAddG_ok d e ps qs (by omega) (by omega)
      have d2 := r5Add_ok d e ps qs (by omega) (by omega)
      have d3 := pLeastG_ok d e ps qs (by omega) (by omega)
      have d4 := r5Least_ok d e ps qs (by omega) (by omega)
      have d5 := pWhereG_ok d n1 n2 ps (by omega)
      have d6 := r5Where_ok d n1 n2 ps (by omega)
      have d7 := pWhereG_ok d y1 y2 ps (by omega)
      have d8 := r5Where_ok d y1 y2 ps (by omega)
      have d9 := valid_ok d ps (by omega)
      have d0 := r5Valid_ok d ps (by omega)
      have ev1 := fun c => pEval_ok d c ps (by omega)
      have ev2 := fun c => r5Eval_ok d c ps (by omega)
      have ro1 := fun c q => round_ok d c q ps (by omega)
      have ro2 := fun c q => r5Round_ok d c q ps (by omega)
      have n1' := addG_len d ps e qs
      have n2' := lstG_len d ps e qs
      have n3' := whG_len d ps n1 n2
      have n4' := whG_len d ps y1 y2
      generalize addG d ps e qs = A at *
      generalize lstG d ps e qs = L at *
      generalize whG d ps n1 n2 = W at *
      generalize whG d ps y1 y2 = V at *
      generalize validB d ps = vb at *
      obtain ⟨⟨A1, A2⟩, A3⟩ := A
      obtain ⟨⟨L1, L2⟩, L3⟩ := L
      obtain ⟨W1, W2⟩ := W
      obtain ⟨V1, V2⟩ := V
      unfold rav at d1 d2 d3 d4
      unfold wav at d5 d6 d7 d8
      dsimp only at d1 d2 d3 d4 d5 d6 d7 d8 n1' n2' n3' n4'
      have s1 := r5Same_ok A1 A1 A2 A2 (by omega) (by omega)
      have s2 := r5Same_ok L1 L1 L2 L2 (by omega) (by omega)
      have s3 := r4Same_ok W1 W1 (by omega) (by omega)
      have s4 := r4Same_ok V1 V1 (by omega) (by omega)
      rw [decide_eq_true ⟨rfl, rfl⟩] at s1 s2
      rw [decide_eq_true rfl] at s3 s4
      repeat' ((conv => whnf) <;> (first | refine zA ?_ (h := hel) | refine zM ?_ | refine zW ?_ | intro _ | exact zF | refine Br.tt ?_ | refine Br.ff ?_ | (refine Br.mk (fun h => ?_) (fun h => ?_) <;> (try simp only [sh] at h) <;> try first | (exfalso; omega) | exact absurd trivial h | (simp at h; done)) | refine zA ?_ | refine zN ?_ | refine zO ?_ | refine zP ?_ | refine zB ?_ | refine Ask.idxAB rfl rfl rfl Qw ?_ | refine zL ent11 d1 ?_ | refine zG ent11 (fun h => d1) ?_ | refine zL ent12 d2 ?_ | refine zG ent12 (fun h => d2) ?_ | refine zL ent13 d3 ?_ | refine zG ent13 (fun h => d3) ?_ | refine zL ent14 d4 ?_ | refine zG ent14 (fun h => d4) ?_ | refine zL ent15 d5 ?_ | refine zG ent15 (fun h => d5) ?_ | refine zL ent16 d6 ?_ | refine zG ent16 (fun h => d6) ?_ | refine zL ent15 d7 ?_ | refine zG ent15 (fun h => d7) ?_ | refine zL ent16 d8 ?_ | refine zG ent16 (fun h => d8) ?_ | refine zL ent20 d9 ?_ | refine zG ent20 (fun h => d9) ?_ | refine zL ent21 d0 ?_ | refine zG ent21 (fun h => d0) ?_ | refine zL ent18 s1 ?_ | refine zG ent18 (fun h => s1) ?_ | refine zL ent18 s2 ?_ | refine zG ent18 (fun h => s2) ?_ | refine zL ent19 s3 ?_ | refine zG ent19 (fun h => s3) ?_ | refine zL ent19 s4 ?_ | refine zG ent19 (fun h => s4) ?_ | refine zL ent17 p1 ?_ | refine zG ent17 (fun h => p1) ?_ | refine zL ent17 p2 ?_ | refine zG ent17 (fun h => p2) ?_ | refine zL ent17 p3 ?_ | refine zG ent17 (fun h => p3) ?_ | refine zL ent17 p4 ?_ | refine zG ent17 (fun h => p4) ?_ | refine lB ?_ | refine lBA ?_ | refine zK ?_ | refine s1 ?_ | refine sA ?_ | refine pS ?_ | refine LK.gr (Gr.bslV rfl rfl rfl rfl) ?_ | refine Ask.of (Gr.bslV rfl rfl rfl rfl) ?_ | refine zC ?_ | refine zD ?_ | exact True.intro | fail))
      simp only [eq_self, decide_true, Bool.and_true, beq_self_eq_true]
      (conv => whnf); refine CK.loopK [11, 33, 34, 35, 36, 37, 38, 39, 40, 41, 42, 43, 44, 216, 217, 218, 219, 220, 221, 222, 223, 224, 225, 226, 227, 228, 229, 230, 231, 232, 233, 234, 235, 236, 237, 238, 239, 240, 241, 242, 243, 244, 245, 246, 247, 248, 249, 250, 251, 252, 253, 254, 255, 256, 257, 258, 259, 260, 261, 262, 263, 264, 265, 266, 267, 268, 269, 270, 271, 272, 273, 274, 275, 276, 277, 278, 279, 280, 281, 282, 283] (σ := Nat) (fun j => j ≤ 3) (fun j => [(11, B true), (216, I j)]) (fun _ => []) _ (fun j => 3 - j) 0 (by omega) Qy Qs ?_
      conv => whnf
      rintro j ij
      by_cases hj : j < 3
      · obtain ⟨cc, hel2⟩ : ∃ cc : Int, ([I n3, I y3, I y4] : List AV)[(j : Int).toNat]? = some (I cc) := by
          rcases (show j = 0 ∨ j = 1 ∨ j = 2 by omega) with rfl | rfl | rfl <;> exact ⟨_, rfl⟩
        have e1 := ev1 cc
        have e2 := ev2 cc
        generalize evalR d ps cc = ev at *
        obtain ⟨v1, v2, v3⟩ := ev
        unfold tr3 at e1 e2
        dsimp only at e1 e2
        repeat' ((conv => whnf) <;> (first | refine zA ?_ (h := hel2) | refine zM ?_ | refine zW ?_ | intro _ | exact zF | refine Br.tt ?_ | refine Br.ff ?_ | (refine Br.mk (fun h => ?_) (fun h => ?_) <;> (try simp only [sh] at h) <;> try first | (exfalso; omega) | exact absurd trivial h | (simp at h; done)) | refine zA ?_ | refine zN ?_ | refine zO ?_ | refine zP ?_ | refine zB ?_ | refine Ask.idxAB rfl rfl rfl Qw ?_ | refine zL ent22 e1 ?_ | refine zG ent22 (fun h => e1) ?_ | refine zL ent23 e2 ?_ | refine zG ent23 (fun h => e2) ?_ | refine lB ?_ | refine lBA ?_ | refine zK ?_ | refine s1 ?_ | refine sA ?_ | refine pS ?_ | refine LK.gr (Gr.bslV rfl rfl rfl rfl) ?_ | refine Ask.of (Gr.bslV rfl rfl rfl rfl) ?_ | refine zC ?_ | refine zD ?_ | exact True.intro | fail))
        simp only [eq_self, decide_true, Bool.and_true, Bool.true_and]
        (conv => whnf); refine CK.loopK [11, 40, 41, 42, 43, 44, 252, 253, 254, 255, 256, 257, 258, 259, 260, 261, 262, 263, 264, 265, 266, 267, 268, 269, 270, 271, 272, 273, 274, 275, 276, 277, 278, 279, 280, 281, 282] (σ := Int) (fun q => -1 ≤ q ∧ q ≤ 4) (fun q => [(11, B true), (40, I q)]) (fun _ => []) _ (fun q => (4 - q).toNat) (-1) (by omega) Qy Qs ?_
        conv => whnf
        rintro q ⟨q1, q2⟩
        by_cases hq : q ≤ 3
        · have r1 := ro1 cc q
          have r2 := ro2 cc q
          generalize roundR d ps cc q = rr at *
          obtain ⟨rr1, rr2⟩ := rr
          unfold pr2 at r1 r2
          dsimp only at r1 r2
          repeat' ((conv => whnf) <;> (first | refine zM ?_ | refine zW ?_ | intro _ | exact zF | refine Br.tt ?_ | refine Br.ff ?_ | (refine Br.mk (fun h => ?_) (fun h => ?_) <;> (try simp only [sh] at h) <;> try first | (exfalso; omega) | exact absurd trivial h | (simp at h; done)) | refine zA ?_ | refine zN ?_ | refine zO ?_ | refine zP ?_ | refine zB ?_ | refine Ask.idxAB rfl rfl rfl Qw ?_ | refine zL ent24 r1 ?_ | refine zG ent24 (fun h => r1) ?_ | refine zL ent25 r2 ?_ | refine zG ent25 (fun h => r2) ?_ | refine lB ?_ | refine lBA ?_ | refine zK ?_ | refine s1 ?_ | refine sA ?_ | refine zC ?_ | exact True.intro | fail))
          simp only [eq_self, decide_true, Bool.and_true]
          (conv => whnf); (refine Nxt.of (q + 1) [11, 40, 41, 42, 43, 44, 252, 253, 254, 255, 256, 257, 258, 259, 260, 261, 262, 263, 264, 265, 266, 267, 268, 269, 270, 271, 272, 273, 274, 275, 276, 277, 278, 279, 280, 281, 282] Qr Qr Qr ?_ ?_ Qy Qs <;> (try dsimp only) <;> (try omega))
        · repeat' ((conv => whnf) <;> (first | refine zM ?_ | refine zW ?_ | intro _ | exact zF | refine Br.tt ?_ | refine Br.ff ?_ | (refine Br.mk (fun h => ?_) (fun h => ?_) <;> (try simp only [sh] at h) <;> try first | (exfalso; omega) | exact absurd trivial h | (simp at h; done)) | refine zA ?_ | refine zN ?_ | refine zO ?_ | refine zP ?_ | refine zB ?_ | refine lB ?_ | refine lBA ?_ | refine zK ?_ | refine s1 ?_ | refine sA ?_ | refine zC ?_ | fail))
          (conv => whnf); (refine Nxt.of (j + 1) [11, 33, 34, 35, 36, 37, 38, 39, 40, 41, 42, 43, 44, 216, 217, 218, 219, 220, 221, 222, 223, 224, 225, 226, 227, 228, 229, 230, 231, 232, 233, 234, 235, 236, 237, 238, 239, 240, 241, 242, 243, 244, 245, 246, 247, 248, 249, 250, 251, 252, 253, 254, 255, 256, 257, 258, 259, 260, 261, 262, 263, 264, 265, 266, 267, 268, 269, 270, 271, 272, 273, 274, 275, 276, 277, 278, 279, 280, 281, 282, 283] Qr Qr Qr ?_ ?_ Qy Qs <;> (try dsimp only) <;> (try omega))
      · repeat' ((conv => whnf) <;> (first | refine zM ?_ | refine zW ?_ | intro _ | exact zF | refine Br.tt ?_ | refine Br.ff ?_ | (refine Br.mk (fun h => ?_) (fun h => ?_) <;> (try simp only [sh] at h) <;> try first | (exfalso; omega) | exact absurd trivial h | (simp at h; done)) | refine zA ?_ | refine zN ?_ | refine zO ?_ | refine zP ?_ | refine zB ?_ | refine lB ?_ | refine lBA ?_ | refine zK ?_ | refine s1 ?_ | refine sA ?_ | refine zC ?_ | fail))
        (conv => whnf); (refine Nxt.of (k + 1) [11, 15, 16, 17, 18, 19, 20, 21, 22, 23, 24, 25, 26, 27, 28, 29, 30, 31, 33, 34, 35, 36, 37, 38, 39, 40, 41, 42, 43, 44, 76, 77, 78, 79, 80, 81, 82, 83, 84, 85, 86, 87, 88, 89, 90, 91, 92, 93, 94, 95, 96, 97, 98, 99, 100, 101, 102, 103, 104, 105, 106, 107, 108, 109, 110, 111, 112, 113, 114, 115, 116, 117, 118, 119, 120, 121, 122, 123, 124, 125, 126, 127, 128, 129, 130, 131, 132, 133, 134, 135, 136, 137, 138, 139, 140, 141, 142, 143, 144, 145, 146, 147, 148, 149, 150, 151, 152, 153, 154, 155, 156, 157, 158, 159, 160, 161, 162, 163, 164, 165, 166, 167, 168, 169, 170, 171, 172, 173, 174, 175, 176, 177, 178, 179, 180, 181, 182, 183, 184, 185, 186, 187, 188, 189, 190, 191, 192, 193, 194, 195, 196, 197, 198, 199, 200, 201, 202, 203, 204, 205, 206, 207, 208, 209, 210, 211, 212, 213, 214, 215, 216, 217, 218, 219, 220, 221, 222, 223, 224, 225, 226, 227, 228, 229, 230, 231, 232, 233, 234, 235, 236, 237, 238, 239, 240, 241, 242, 243, 244, 245, 246, 247, 248, 249, 250, 251, 252, 253, 254, 255, 256, 257, 258, 259, 260, 261, 262, 263, 264, 265, 266, 267, 268, 269, 270, 271, 272, 273, 274, 275, 276, 277, 278, 279, 280, 281, 282, 283, 284] Qr Qr Qr ?_ ?_ Qy ?_ <;> (try dsimp only) <;> (try omega))
        exact Qs
    · obtain rfl : k = 3 := by omega
      repeat' ((conv => whnf) <;> (first | refine zM ?_ | refine zW ?_ | intro _ | exact zF | refine Fin.pure ?_ | refine Br.tt ?_ | refine Br.ff ?_ | (refine Br.mk (fun h => ?_) (fun h => ?_) <;> (try simp only [sh] at h) <;> try first | (exfalso; omega) | exact absurd trivial h | (simp at h; done)) | refine zA ?_ | refine zN ?_ | refine zO ?_ | refine zP ?_ | refine zB ?_ | refine lB ?_ | refine lBA ?_ | refine zK ?_ | refine s1 ?_ | refine sA ?_ | refine zC ?_ | fail))
end Go.Proofs.Ytnekeokgognegaa
