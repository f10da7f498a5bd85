/-
  Walks: law 19: DomainReasons.
  Conditions: those of each theorem.
-/
import Derived.Test.YtjfnkmlnbaianaaGreatDQ
import Derived.Test.YtjfnkmlnbaianaaGreatRO8
import Derived.Test.YtjfnkmlnbaianaaGreatRF2
namespace Go.Proofs.YtjfnkmlnbaianaaGreat
open Go.E2 Go.Wage
theorem yesS_get {d m k : Nat} (h : k < m) : (yesS d m).getD k default = ⟨(d : Int), (k : Int), true⟩ := by
  unfold yesS
  rw [getD_at' (by simpa using h)]
  simp
set_option maxRecDepth 4000 in
set_option maxHeartbeats 8000000 in
theorem nsome_ok (p : Pl) (d : Nat) (hs : Small p) (hd : d < p.duties.length) : FnA Tryz.prog 25 [.agg (pcs p), .sl 3 ((yesS d p.workers.length).map ltav)] (B true) := by
  have hsd := hs.du
  have hsw := hs.wk
  have hld : (p.duties.map duav).length = p.duties.length := by simp
  have hlw : (p.workers.map wkav).length = p.workers.length := by simp
  have hly : ((yesS d p.workers.length).map ltav).length = p.workers.length := by rw [List.length_map, yesS_len]
  have hly2 := yesS_len d p.workers.length
  refine fn_run (T := tab) Tryz.func25 rfl Tryz.ntmps25 rfl Tryz.results25 (fun _ => ?_)
  repeat' ((conv => whnf) <;> (first | refine zM ?_ | refine zW ?_ | intro _ | exact zF | refine Br.tt ?_ | refine Br.ff ?_ | (refine Br.mk (fun h => ?_) (fun h => ?_) <;> (try simp only [sh] at h) <;> try first | (exfalso; omega) | exact absurd trivial h | (simp at h; done)) | refine zA ?_ | refine zN ?_ | refine zO ?_ | refine zP ?_ | refine zB ?_ | refine lB ?_ | refine lBA ?_ | refine zK ?_ | refine s1 ?_ | refine sA ?_ | refine zC ?_ | fail))
  rename_i b
  (conv => whnf); refine CK.loopK [4, 5, 6, 15, 16, 17, 18, 19, 20, 21, 22, 23, 24, 25, 26, 27, 28, 29, 30, 31, 32, 33, 34, 35, 36, 37, 38, 39, 40, 41, 42, 43, 44, 45, 46, 47, 48, 49, 50, 51] (σ := Nat) (fun k => k ≤ p.workers.length) (fun k => [(15, I k)]) (fun _ => [.blk b 32 false (pcs p)]) [] (fun k => p.workers.length - k) 0 (Nat.zero_le _) Qy Qs ?_
  conv => whnf
  rintro k hk
  by_cases hkm : k < p.workers.length
  · have hgk := yesS_get (d := d) hkm
    have hg0 := yesS_get (d := d) (k := 0) (m := p.workers.length) (by omega)
    repeat' ((conv => whnf) <;> (first | refine CK.anyK (id := 6) [0, 1, 2, 3, 4, 5, 6, 7, 8, 9, 10, 11, 12, 13, 14, 15, 16, 17, 18, 19, 20, 21, 22, 23, 24, 25, 26, 27, 28, 29, 30] [] _ (List.Sublist.refl _) Qk ?_ | refine zM ?_ | refine zW ?_ | intro _ | exact zF | refine Br.tt ?_ | refine Br.ff ?_ | (refine Br.mk (fun h => ?_) (fun h => ?_) <;> (try simp only [sh] at h) <;> try first | (exfalso; omega) | exact absurd trivial h | (simp at h; done)) | refine zA ?_ | refine zN ?_ | refine zO ?_ | refine zP ?_ | refine zB ?_ | refine lB ?_ | refine lBA ?_ | refine lM ?_ | refine lM0 ?_ | refine lMA ?_ | refine sM ?_ | refine zK ?_ | refine s1 ?_ | refine sA ?_ | refine Kx.nil ?_ | refine Kx.stp rfl rfl Qs ?_ | refine kA ?_ | (refine Kx.frzR 0 rfl ?_ <;> refine kF ?_) | refine kP ?_ | refine k1 ?_ | refine kB ?_ | refine kL ?_ | refine zC ?_ | exact True.intro | fail))
    · exfalso
      have e0 : ((yesS d p.workers.length).getD (Int.toNat 0) default).du = (d : Int) := congrArg Lt.du hg0
      rw [hgk] at h
      simp only at h
      rcases h with (((h | h) | h) | h) | h
      · exact h e0.symm
      · omega
      · omega
      · exact h trivial
      · cases h
    · (conv => whnf); (refine Nxt.of (k + 1) [4, 5, 6, 15, 16, 17, 18, 19, 20, 21, 22, 23, 24, 25, 26, 27, 28, 29, 30, 31, 32, 33, 34, 35, 36, 37, 38, 39, 40, 41, 42, 43, 44, 45, 46, 47, 48, 49, 50, 51] Qr Qr Qr ?_ ?_ Qy Qs <;> (try dsimp only) <;> (try omega))
  · repeat' ((conv => whnf) <;> (first | refine zM ?_ | refine zW ?_ | intro _ | exact zF | refine Br.tt ?_ | refine Br.ff ?_ | (refine Br.mk (fun h => ?_) (fun h => ?_) <;> (try simp only [sh] at h) <;> try first | (exfalso; omega) | exact absurd trivial h | (simp at h; done)) | refine zA ?_ | refine zN ?_ | refine zO ?_ | refine zP ?_ | refine zB ?_ | refine lB ?_ | refine lBA ?_ | refine zK ?_ | refine s1 ?_ | refine sA ?_ | refine zC ?_ | fail))
    conv => whnf
    refine .out _ (by exact List.nil_sublist _) ⟨congrArg B (decide_eq_true (by omega)), rfl⟩
set_option maxRecDepth 4000 in
set_option maxHeartbeats 8000000 in
theorem nden_ok (p : Pl) (w : Nat) (ds : List Nat) (hs : Small p) (hw : w < p.workers.length) (hd : ∀ d ∈ ds, d < p.duties.length) (hn : ds.Nodup) (hl : ds.length = 1 ∨ ds.length = 2) : FnE Tryz.prog 26 [.agg (pcs p), .sl 3 ((ds.map fun d : Nat => (⟨(d : Int), (w : Int), false⟩ : Lt)).map ltav)] fun r E => ∃ v, r = .tup [.v v, B true] ∧ E = [Ro v (putR p.duties.length w ds)] := by
  have hsd := hs.du
  have hld : (p.duties.map duav).length = p.duties.length := by simp
  have hlw : (p.workers.map wkav).length = p.workers.length := by simp
  have hrl : (List.replicate p.duties.length (AV.v (.int .i64 0))).length = p.duties.length := by simp
  generalize hcl : (ds.map fun d : Nat => (⟨(d : Int), (w : Int), false⟩ : Lt)) = cl
  have hcll : cl.length = ds.length := by rw [← hcl]; simp
  have hclm : (cl.map ltav).length = ds.length := by rw [List.length_map, hcll]
  have hcg : ∀ k, k < ds.length → cl.getD k default = ⟨((ds.getD k default : Nat) : Int), (w : Int), false⟩ := fun k hk => by
    rw [← hcl, getD_at' (by simpa using hk), getD_at' hk]
    simp
  refine fn_run (T := tab) Tryz.func26 rfl Tryz.ntmps26 rfl Tryz.results26 (fun _ => ?_)
  repeat' ((conv => whnf) <;> (first | refine nR (T := tab) ?_ | (refine LK.eff (Eff.mkS (T := tab) (N := p.duties.length) (z := .int .i64 0) rfl rfl rfl rfl (congrArg (fun q : Nat => some (I (q : Int))) hld) (by omega)) ?_ <;> rintro _ _ ⟨A1, B1, C1, rfl, rfl⟩) | refine zM ?_ | refine zW ?_ | intro _ | exact zF | refine Br.tt ?_ | refine Br.ff ?_ | (refine Br.mk (fun h => ?_) (fun h => ?_) <;> (try simp only [sh] at h) <;> try first | (exfalso; omega) | exact absurd trivial h | (simp at h; done)) | refine zA ?_ | refine zN ?_ | refine zO ?_ | refine zP ?_ | refine zB ?_ | refine lB ?_ | refine lBA ?_ | refine zK ?_ | refine s1 ?_ | refine sA ?_ | refine zC ?_ | fail))
  rename_i b
  (conv => whnf); refine CK.loopK [7, 16, 17, 18, 19, 20, 21, 22] (σ := Nat) (fun i => i ≤ p.duties.length) (fun i => [(16, I i)]) (fun i => [Ro (.slice A1 B1 C1) (negI p.duties.length i), .blk b 32 false (pcs p)]) [] (fun i => p.duties.length - i) 0 (Nat.zero_le _) Qy (by
    have e : (negI p.duties.length 0).map I = List.replicate p.duties.length (AV.v (.int .i64 0)) := by unfold negI; rw [List.replicate_zero, List.nil_append, List.map_replicate, Nat.sub_zero]
    dsimp only [Ro]
    rw [e]
    exact Qs) ?_
  conv => whnf
  rintro i hi
  have hn0 := negI_len (n := p.duties.length) (i := i) hi
  have hn1 : ((negI p.duties.length i).map I).length = p.duties.length := by rw [List.length_map, hn0]
  by_cases hin : i < p.duties.length
  · have hst := set_Id (negI p.duties.length i) (i : Int).toNat (-1)
    repeat' ((conv => whnf) <;> (first | refine LK.stRM (a := (i : Int).toNat) (j := 0) 0 rfl rfl rfl rfl rfl (Nat.zero_le _) (by omega) rfl rfl ?_ | refine iR (T := tab) ?_ | refine nR (T := tab) ?_ | refine zM ?_ | refine zW ?_ | intro _ | exact zF | refine Br.tt ?_ | refine Br.ff ?_ | (refine Br.mk (fun h => ?_) (fun h => ?_) <;> (try simp only [sh] at h) <;> try first | (exfalso; omega) | exact absurd trivial h | (simp at h; done)) | refine zA ?_ | refine zN ?_ | refine zO ?_ | refine zP ?_ | refine zB ?_ | refine lB ?_ | refine lBA ?_ | refine zK ?_ | refine s1 ?_ | refine sA ?_ | refine zC ?_ | fail))
    (conv => whnf); (refine Nxt.of (i + 1) [7, 16, 17, 18, 19, 20, 21, 22] Qr Qr Qr ?_ ?_ Qy ?_ <;> (try dsimp only) <;> (try omega))
    rw [hst, Int.toNat_natCast, negI_set hin]
    exact Qs
  · obtain rfl : i = p.duties.length := by omega
    repeat' ((conv => whnf) <;> (first | refine nR (T := tab) ?_ | refine zM ?_ | refine zW ?_ | intro _ | exact zF | refine Br.tt ?_ | refine Br.ff ?_ | (refine Br.mk (fun h => ?_) (fun h => ?_) <;> (try simp only [sh] at h) <;> try first | (exfalso; omega) | exact absurd trivial h | (simp at h; done)) | refine zA ?_ | refine zN ?_ | refine zO ?_ | refine zP ?_ | refine zB ?_ | refine lB ?_ | refine lBA ?_ | refine zK ?_ | refine s1 ?_ | refine sA ?_ | refine zC ?_ | fail))
    (conv => whnf); refine CK.loopK [4, 5, 9, 25, 26, 27, 28, 29, 30, 31, 32, 33, 34, 35, 36, 37, 38, 39, 40, 41, 42, 43, 44, 45, 46, 47, 48, 49, 50, 51, 52, 53, 54, 55, 56, 57, 58, 59, 60, 61, 62, 63, 64, 65, 66, 67, 68, 69, 70] (σ := Nat) (fun k => k ≤ ds.length) (fun k => [(25, I k)]) (fun k => [Ro (.slice A1 B1 C1) (putR p.duties.length w (ds.take k)), .blk b 32 false (pcs p)]) [] (fun k => ds.length - k) 0 (Nat.zero_le _) Qy (by
      rw [List.take_zero, putR_nil]
      exact Qs) ?_
    conv => whnf
    rintro k hk
    have hp0 := putR_len p.duties.length w (ds.take k)
    have hp1 : ((putR p.duties.length w (ds.take k)).map I).length = p.duties.length := by rw [List.length_map, hp0]
    by_cases hkl : k < ds.length
    · have hdk := hd (ds.getD k default) (by rw [getD_at' hkl]; exact List.getElem_mem _)
      have hck := hcg k hkl
      have hpg : (putR p.duties.length w (ds.take k)).getD (ds.getD k default) default = -1 := by
        rw [putR_get (fun d hd' => hd d (List.mem_of_mem_take hd')) hdk, if_neg]
        intro hm
        have h1 : (ds.take (k + 1)).Nodup := hn.sublist (List.take_sublist _ _)
        rw [take_snocD hkl, List.nodup_append] at h1
        exact h1.2.2 _ hm _ (List.mem_singleton.2 rfl) rfl
      have hst := set_Id (putR p.duties.length w (ds.take k)) (cl.getD k default).du.toNat (cl.getD k default).wk
      repeat' ((conv => whnf) <;> (first | refine LK.stRM (a := (cl.getD k default).du.toNat) (j := 0) 1 rfl rfl rfl rfl rfl (Nat.zero_le _) (by rw [hck, hp0]; simpa using hdk) rfl rfl ?_ | refine iR (T := tab) ?_ | refine nR (T := tab) ?_ | refine CK.anyK (id := 10) [0, 1, 2, 3, 4, 5, 6, 7, 8, 9, 10, 11, 12, 13, 14, 15, 16, 17, 18, 19, 20, 21, 22, 23, 24, 25, 26, 27, 28, 29, 30, 31, 32, 33, 34] [] _ (List.Sublist.refl _) Qk ?_ | refine zM ?_ | refine zW ?_ | intro _ | exact zF | refine Br.tt ?_ | refine Br.ff ?_ | (refine Br.mk (fun h => ?_) (fun h => ?_) <;> (try simp only [sh] at h) <;> try first | (exfalso; omega) | exact absurd trivial h | (simp at h; done)) | refine zA ?_ | refine zN ?_ | refine zO ?_ | refine zP ?_ | refine zB ?_ | refine lB ?_ | refine lBA ?_ | refine lM ?_ | refine lM0 ?_ | refine lMA ?_ | refine sM ?_ | refine zK ?_ | refine s1 ?_ | refine sA ?_ | refine Kx.nil ?_ | refine Kx.stp rfl rfl Qs ?_ | refine kA ?_ | (refine Kx.frzR 0 rfl ?_ <;> refine kF ?_) | refine kP ?_ | refine k1 ?_ | refine kB ?_ | refine kL ?_ | refine zC ?_ | exact True.intro | fail))
      · exfalso
        rw [hck] at h
        simp only at h
        rw [Int.toNat_natCast, hpg] at h
        rcases h with ((((h | h) | h) | h) | h) | h
        · omega
        · omega
        · omega
        · omega
        · cases h
        · omega
      · (conv => whnf); (refine Nxt.of (k + 1) [4, 5, 9, 25, 26, 27, 28, 29, 30, 31, 32, 33, 34, 35, 36, 37, 38, 39, 40, 41, 42, 43, 44, 45, 46, 47, 48, 49, 50, 51, 52, 53, 54, 55, 56, 57, 58, 59, 60, 61, 62, 63, 64, 65, 66, 67, 68, 69, 70] Qr Qr Qr ?_ ?_ Qy ?_ <;> (try dsimp only) <;> (try omega))
        rw [hst, hck]
        simp only
        rw [Int.toNat_natCast, take_snocD hkl, putR_snoc]
        exact Qs
    · obtain rfl : k = ds.length := by omega
      rw [List.take_length]
      repeat' ((conv => whnf) <;> (first | refine zM ?_ | refine zW ?_ | intro _ | exact zF | refine Br.tt ?_ | refine Br.ff ?_ | (refine Br.mk (fun h => ?_) (fun h => ?_) <;> (try simp only [sh] at h) <;> try first | (exfalso; omega) | exact absurd trivial h | (simp at h; done)) | refine zA ?_ | refine zN ?_ | refine zO ?_ | refine zP ?_ | refine zB ?_ | refine lB ?_ | refine lBA ?_ | refine zK ?_ | refine s1 ?_ | refine sA ?_ | refine zC ?_ | fail))
      conv => whnf
      refine .out _ (by exact .cons_cons _ (List.nil_sublist _)) ⟨_, congrArg (fun q => AV.tup [_, B q]) ?_, rfl⟩
      rw [Bool.or_eq_true, decide_eq_true_eq, decide_eq_true_eq, hclm]
      omega
theorem base_at {p : Pl} {k : Nat} {s : Sg} (hk : k < (baseP p).length) (e : (baseP p).getD k default = s) : ((baseP p).map sgav)[(k : Int).toNat]? = some (sgav s) := by
  rw [Int.toNat_natCast, List.getElem?_map, List.getElem?_eq_getElem hk, ← getD_at' hk, e]
  rfl
theorem bad_len {p : Pl} {w : Nat} (hw : w < p.workers.length) {ds : List Nat} (hb : badW p w ds = true) : 0 < (badP p (putR p.duties.length w ds)).length := by
  refine List.length_pos_iff.2 fun e => ?_
  have := (bad_put hw ds).1 e
  rw [hb] at this
  cases this
set_option maxRecDepth 4000 in
set_option maxHeartbeats 8000000 in
theorem nReasons_all (p : Pl) (hz : PlZ p) : FnA Tryz.prog 8 [.agg (pcs p)] (B true) := by
  have c0 := nHead_ok
  have c1 := nsmall_ok p hz
  by_cases hs : smallV p [] 7 = true
  · rw [hs] at c1
    obtain ⟨sm, h7, h20⟩ := small7 hs
    have k3 := dmBase_ok p sm (by omega) (by omega)
    have k4 := v8Valid_ok p sm
    by_cases hv : validP p = true
    · rw [hv] at k4
      have hbl := base_len p h7 h20
      have hbm : ((baseP p).map sgav).length = (baseP p).length := by simp
      have hld : (p.duties.map duav).length = p.duties.length := by simp
      have hlw : (p.workers.map wkav).length = p.workers.length := by simp
      have hnil : ([] : List Int).length = 0 := rfl
      refine fn_run (T := tab) Tryz.func8 rfl Tryz.ntmps8 rfl Tryz.results8 (fun _ => ?_)
      repeat' ((conv => whnf) <;> (first | refine zM ?_ | refine zW ?_ | intro _ | exact zF | refine Br.tt ?_ | refine Br.ff ?_ | (refine Br.mk (fun h => ?_) (fun h => ?_) <;> (try simp only [sh] at h) <;> try first | (exfalso; omega) | exact absurd trivial h | (simp at h; done)) | refine zA ?_ | refine zN ?_ | refine zO ?_ | refine zP ?_ | refine zB ?_ | refine zL ent10 c0 ?_ | refine zG ent10 (fun h => c0) ?_ | refine zL ent11 c1 ?_ | refine zG ent11 (fun h => c1) ?_ | refine zL ent16 k3 ?_ | refine zG ent16 (fun h => k3) ?_ | refine zL ent24 k4 ?_ | refine zG ent24 (fun h => k4) ?_ | refine lB ?_ | refine lBA ?_ | refine zK ?_ | refine s1 ?_ | refine sA ?_ | refine zC ?_ | exact True.intro | fail))
      rename_i b
      (conv => whnf); refine CK.loopK [2, 6, 7, 8, 9, 10, 11, 30, 31, 32, 33, 34, 35, 36, 37, 38, 39, 40, 41, 42, 43, 44, 45, 46, 47, 48, 49, 50, 51, 52, 53, 54, 55, 56, 57, 58, 59, 60, 61, 62, 63, 64, 65, 66, 67, 68, 69, 70, 71, 72, 73, 74, 75, 76, 77, 78, 79, 80, 81, 82, 83, 84, 85, 86, 87, 88, 89, 90, 91, 92, 93, 94, 95, 96, 97, 98, 99, 100, 101, 102, 103, 104, 105, 106, 107, 108, 109, 110, 111, 112, 113, 114, 115, 116, 117, 118, 119, 120, 121, 122, 123, 124, 125, 126, 127, 128, 129, 130, 131, 132, 133, 134, 135, 136, 137, 138, 139, 140, 141, 142, 143, 144, 145, 146, 147, 148, 149, 150, 151] (σ := Nat) (fun k => k ≤ (baseP p).length) (fun k => [(30, I k)]) (fun _ => [.blk b 32 false (pcs p)]) [] (fun k => (baseP p).length - k) 0 (Nat.zero_le _) Qy Qs ?_
      conv => whnf
      rintro k hk
      by_cases hkb : k < (baseP p).length
      · have hm : (baseP p).getD k default ∈ baseP p := getD_mem hkb
        rcases (base_mem hv).1 hm with ⟨d, h1, e⟩ | ⟨d, v, w, h1, h2, h3, e⟩ | ⟨w, d, h1, h2, h3, e⟩ | ⟨w, d, d2, h1, h2, h3, h4, h5, h6, e⟩
        · have hel := base_at hkb e
          have c5 := nsome_ok p d sm h1
          repeat' ((conv => whnf) <;> (first | refine zA ?_ (h := hel) | refine zM ?_ | refine zW ?_ | intro _ | exact zF | refine Br.tt ?_ | refine Br.ff ?_ | (refine Br.mk (fun h => ?_) (fun h => ?_) <;> (try simp only [sh] at h) <;> try first | (exfalso; omega) | exact absurd trivial h | (simp at h; done)) | refine zA ?_ | refine zN ?_ | refine zO ?_ | refine zP ?_ | refine zB ?_ | refine zL ent25 c5 ?_ | refine zG ent25 (fun h => c5) ?_ | refine lB ?_ | refine lBA ?_ | refine zK ?_ | refine s1 ?_ | refine sA ?_ | refine Kx.nil ?_ | refine Kx.stp rfl rfl Qs ?_ | refine kA ?_ | (refine Kx.frzR 0 rfl ?_ <;> refine kF ?_) | refine kP ?_ | refine k1 ?_ | refine kB ?_ | refine kL ?_ | refine zC ?_ | exact True.intro | fail))
          (conv => whnf); (refine Nxt.of (k + 1) [2, 6, 7, 8, 9, 10, 11, 30, 31, 32, 33, 34, 35, 36, 37, 38, 39, 40, 41, 42, 43, 44, 45, 46, 47, 48, 49, 50, 51, 52, 53, 54, 55, 56, 57, 58, 59, 60, 61, 62, 63, 64, 65, 66, 67, 68, 69, 70, 71, 72, 73, 74, 75, 76, 77, 78, 79, 80, 81, 82, 83, 84, 85, 86, 87, 88, 89, 90, 91, 92, 93, 94, 95, 96, 97, 98, 99, 100, 101, 102, 103, 104, 105, 106, 107, 108, 109, 110, 111, 112, 113, 114, 115, 116, 117, 118, 119, 120, 121, 122, 123, 124, 125, 126, 127, 128, 129, 130, 131, 132, 133, 134, 135, 136, 137, 138, 139, 140, 141, 142, 143, 144, 145, 146, 147, 148, 149, 150, 151] Qr Qr Qr ?_ ?_ Qy Qs <;> (try dsimp only) <;> (try omega))
        · have hel := base_at hkb e
          have h2l : ([⟨(d : Int), (v : Int), false⟩, ⟨(d : Int), (w : Int), false⟩] : List Lt).length = 2 := rfl
          repeat' ((conv => whnf) <;> (first | refine CK.anyK (id := 19) [0, 1, 2, 3, 4, 5, 6, 7, 8, 9, 10, 11, 12, 13, 14, 15, 16, 17, 18, 19, 20, 21, 22, 23, 24, 25, 26, 27, 28, 29, 30, 31, 32, 33, 34, 35, 36, 37, 38, 39, 40, 41, 42, 43, 44, 45, 46, 47, 48, 49, 50, 51, 52, 53, 54, 55, 56, 57, 58, 59, 60, 61, 62, 63, 64, 65, 66, 67, 68, 69, 70] [] _ (List.Sublist.refl _) Qk ?_ | refine zA ?_ (h := hel) | refine zM ?_ | refine zW ?_ | intro _ | exact zF | refine Br.tt ?_ | refine Br.ff ?_ | (refine Br.mk (fun h => ?_) (fun h => ?_) <;> (try simp only [sh] at h) <;> try first | (exfalso; omega) | exact absurd trivial h | (simp at h; done)) | refine zA ?_ | refine zN ?_ | refine zO ?_ | refine zP ?_ | refine zB ?_ | refine lB ?_ | refine lBA ?_ | refine zK ?_ | refine s1 ?_ | refine sA ?_ | refine Kx.nil ?_ | refine Kx.stp rfl rfl Qs ?_ | refine kA ?_ | (refine Kx.frzR 0 rfl ?_ <;> refine kF ?_) | refine kP ?_ | refine k1 ?_ | refine kB ?_ | refine kL ?_ | refine zC ?_ | exact True.intro | fail))
          (conv => whnf); (refine Nxt.of (k + 1) [2, 6, 7, 8, 9, 10, 11, 30, 31, 32, 33, 34, 35, 36, 37, 38, 39, 40, 41, 42, 43, 44, 45, 46, 47, 48, 49, 50, 51, 52, 53, 54, 55, 56, 57, 58, 59, 60, 61, 62, 63, 64, 65, 66, 67, 68, 69, 70, 71, 72, 73, 74, 75, 76, 77, 78, 79, 80, 81, 82, 83, 84, 85, 86, 87, 88, 89, 90, 91, 92, 93, 94, 95, 96, 97, 98, 99, 100, 101, 102, 103, 104, 105, 106, 107, 108, 109, 110, 111, 112, 113, 114, 115, 116, 117, 118, 119, 120, 121, 122, 123, 124, 125, 126, 127, 128, 129, 130, 131, 132, 133, 134, 135, 136, 137, 138, 139, 140, 141, 142, 143, 144, 145, 146, 147, 148, 149, 150, 151] Qr Qr Qr ?_ ?_ Qy Qs <;> (try dsimp only) <;> (try omega))
        · have hel := base_at hkb e
          have c5 : FnE Tryz.prog 26 [.agg (pcs p), .sl 3 (([⟨(d : Int), (w : Int), false⟩] : List Lt).map ltav)] fun r E => ∃ v, r = .tup [.v v, B true] ∧ E = [Ro v (putR p.duties.length w [d])] := nden_ok p w [d] sm h1 (fun x hx => by rw [List.mem_singleton] at hx; omega) (by simp) (.inl rfl)
          have hok : okRo p (putR p.duties.length w [d]) = true := by unfold okRo; rw [hv, putR_isRo h1]; rfl
          have c6 := oBad_ok p (putR p.duties.length w [d]) sm
          rw [if_pos hok, if_pos hok] at c6
          have hbp := bad_len h1 h3
          repeat' ((conv => whnf) <;> (first | (refine LK.frzR 0 rfl ?_ <;> refine LK.see 136 rfl (Sb.row 0 rfl) ?_ <;> refine LK.callA ent27 c6 rfl rfl Ql ?_) | refine zA ?_ (h := hel) | refine zM ?_ | refine zW ?_ | intro _ | exact zF | refine Br.tt ?_ | refine Br.ff ?_ | (refine Br.mk (fun h => ?_) (fun h => ?_) <;> (try simp only [sh] at h) <;> try first | (exfalso; omega) | exact absurd trivial h | (simp at h; done)) | refine zA ?_ | refine zN ?_ | refine zO ?_ | refine zP ?_ | refine zB ?_ | (refine LK.call ent26 (c5) rfl rfl Ql (fun _ _ hcall => ?_) <;> obtain ⟨v, rfl, rfl⟩ := hcall) | (refine Kx.eff rfl (Eff.call ent26 (c5) rfl rfl Ql) (by rintro _ _ ⟨_, ⟨v, rfl, rfl⟩, rfl⟩; exact Qs) ?_ <;> rintro _ _ ⟨_, ⟨v, rfl, rfl⟩, rfl⟩) | refine lB ?_ | refine lBA ?_ | refine zK ?_ | refine s1 ?_ | refine sA ?_ | refine Kx.nil ?_ | refine Kx.stp rfl rfl Qs ?_ | refine kA ?_ | (refine Kx.frzR 0 rfl ?_ <;> refine kF ?_) | refine kP ?_ | refine k1 ?_ | refine kB ?_ | refine kL ?_ | refine zC ?_ | exact True.intro | fail))
          (conv => whnf); (refine Nxt.of (k + 1) [2, 6, 7, 8, 9, 10, 11, 30, 31, 32, 33, 34, 35, 36, 37, 38, 39, 40, 41, 42, 43, 44, 45, 46, 47, 48, 49, 50, 51, 52, 53, 54, 55, 56, 57, 58, 59, 60, 61, 62, 63, 64, 65, 66, 67, 68, 69, 70, 71, 72, 73, 74, 75, 76, 77, 78, 79, 80, 81, 82, 83, 84, 85, 86, 87, 88, 89, 90, 91, 92, 93, 94, 95, 96, 97, 98, 99, 100, 101, 102, 103, 104, 105, 106, 107, 108, 109, 110, 111, 112, 113, 114, 115, 116, 117, 118, 119, 120, 121, 122, 123, 124, 125, 126, 127, 128, 129, 130, 131, 132, 133, 134, 135, 136, 137, 138, 139, 140, 141, 142, 143, 144, 145, 146, 147, 148, 149, 150, 151] Qr Qr Qr ?_ ?_ Qy Qs <;> (try dsimp only) <;> (try omega))
        · have hel := base_at hkb e
          have c5 : FnE Tryz.prog 26 [.agg (pcs p), .sl 3 (([⟨(d : Int), (w : Int), false⟩, ⟨(d2 : Int), (w : Int), false⟩] : List Lt).map ltav)] fun r E => ∃ v, r = .tup [.v v, B true] ∧ E = [Ro v (putR p.duties.length w [d, d2])] := nden_ok p w [d, d2] sm h1 (fun x hx => by simp only [List.mem_cons, List.not_mem_nil, or_false] at hx; omega) (by simp; omega) (.inr rfl)
          have hok : okRo p (putR p.duties.length w [d, d2]) = true := by unfold okRo; rw [hv, putR_isRo h1]; rfl
          have c6 := oBad_ok p (putR p.duties.length w [d, d2]) sm
          rw [if_pos hok, if_pos hok] at c6
          have hbp := bad_len h1 h6
          repeat' ((conv => whnf) <;> (first | (refine LK.frzR 0 rfl ?_ <;> refine LK.see 136 rfl (Sb.row 0 rfl) ?_ <;> refine LK.callA ent27 c6 rfl rfl Ql ?_) | refine zA ?_ (h := hel) | refine zM ?_ | refine zW ?_ | intro _ | exact zF | refine Br.tt ?_ | refine Br.ff ?_ | (refine Br.mk (fun h => ?_) (fun h => ?_) <;> (try simp only [sh] at h) <;> try first | (exfalso; omega) | exact absurd trivial h | (simp at h; done)) | refine zA ?_ | refine zN ?_ | refine zO ?_ | refine zP ?_ | refine zB ?_ | (refine LK.call ent26 (c5) rfl rfl Ql (fun _ _ hcall => ?_) <;> obtain ⟨v, rfl, rfl⟩ := hcall) | (refine Kx.eff rfl (Eff.call ent26 (c5) rfl rfl Ql) (by rintro _ _ ⟨_, ⟨v, rfl, rfl⟩, rfl⟩; exact Qs) ?_ <;> rintro _ _ ⟨_, ⟨v, rfl, rfl⟩, rfl⟩) | refine lB ?_ | refine lBA ?_ | refine zK ?_ | refine s1 ?_ | refine sA ?_ | refine Kx.nil ?_ | refine Kx.stp rfl rfl Qs ?_ | refine kA ?_ | (refine Kx.frzR 0 rfl ?_ <;> refine kF ?_) | refine kP ?_ | refine k1 ?_ | refine kB ?_ | refine kL ?_ | refine zC ?_ | exact True.intro | fail))
          (conv => whnf); (refine Nxt.of (k + 1) [2, 6, 7, 8, 9, 10, 11, 30, 31, 32, 33, 34, 35, 36, 37, 38, 39, 40, 41, 42, 43, 44, 45, 46, 47, 48, 49, 50, 51, 52, 53, 54, 55, 56, 57, 58, 59, 60, 61, 62, 63, 64, 65, 66, 67, 68, 69, 70, 71, 72, 73, 74, 75, 76, 77, 78, 79, 80, 81, 82, 83, 84, 85, 86, 87, 88, 89, 90, 91, 92, 93, 94, 95, 96, 97, 98, 99, 100, 101, 102, 103, 104, 105, 106, 107, 108, 109, 110, 111, 112, 113, 114, 115, 116, 117, 118, 119, 120, 121, 122, 123, 124, 125, 126, 127, 128, 129, 130, 131, 132, 133, 134, 135, 136, 137, 138, 139, 140, 141, 142, 143, 144, 145, 146, 147, 148, 149, 150, 151] Qr Qr Qr ?_ ?_ Qy Qs <;> (try dsimp only) <;> (try omega))
      · obtain rfl : k = (baseP p).length := by omega
        repeat' ((conv => whnf) <;> (first | refine zM ?_ | refine zW ?_ | intro _ | exact zF | refine Br.tt ?_ | refine Br.ff ?_ | (refine Br.mk (fun h => ?_) (fun h => ?_) <;> (try simp only [sh] at h) <;> try first | (exfalso; omega) | exact absurd trivial h | (simp at h; done)) | refine zA ?_ | refine zN ?_ | refine zO ?_ | refine zP ?_ | refine zB ?_ | refine lB ?_ | refine lBA ?_ | refine zK ?_ | refine s1 ?_ | refine sA ?_ | refine zC ?_ | fail))
    · rw [Bool.eq_false_iff.2 hv] at k4
      have e : baseP p = [] := by rw [baseP, if_neg hv]
      rw [e] at k3
      refine fn_run (T := tab) Tryz.func8 rfl Tryz.ntmps8 rfl Tryz.results8 (fun _ => ?_)
      repeat' ((conv => whnf) <;> (first | refine zM ?_ | refine zW ?_ | intro _ | exact zF | refine Fin.pure ?_ | refine Br.tt ?_ | refine Br.ff ?_ | (refine Br.mk (fun h => ?_) (fun h => ?_) <;> (try simp only [sh] at h) <;> try first | (exfalso; omega) | exact absurd trivial h | (simp at h; done)) | refine zA ?_ | refine zN ?_ | refine zO ?_ | refine zP ?_ | refine zB ?_ | refine zL ent10 c0 ?_ | refine zG ent10 (fun h => c0) ?_ | refine zL ent11 c1 ?_ | refine zG ent11 (fun h => c1) ?_ | refine zL ent16 k3 ?_ | refine zG ent16 (fun h => k3) ?_ | refine zL ent24 k4 ?_ | refine zG ent24 (fun h => k4) ?_ | refine lB ?_ | refine lBA ?_ | refine zK ?_ | refine s1 ?_ | refine sA ?_ | refine zC ?_ | exact True.intro | fail))
  · rw [Bool.eq_false_iff.2 hs] at c1
    refine fn_run (T := tab) Tryz.func8 rfl Tryz.ntmps8 rfl Tryz.results8 (fun _ => ?_)
    repeat' ((conv => whnf) <;> (first | refine zM ?_ | refine zW ?_ | intro _ | exact zF | refine Fin.pure ?_ | refine Br.tt ?_ | refine Br.ff ?_ | (refine Br.mk (fun h => ?_) (fun h => ?_) <;> (try simp only [sh] at h) <;> try first | (exfalso; omega) | exact absurd trivial h | (simp at h; done)) | refine zA ?_ | refine zN ?_ | refine zO ?_ | refine zP ?_ | refine zB ?_ | refine zL ent10 c0 ?_ | refine zG ent10 (fun h => c0) ?_ | refine zL ent11 c1 ?_ | refine zG ent11 (fun h => c1) ?_ | refine lB ?_ | refine lBA ?_ | refine zK ?_ | refine s1 ?_ | refine sA ?_ | refine zC ?_ | exact True.intro | fail))
end Go.Proofs.YtjfnkmlnbaianaaGreat
