/-
  Walks: law 19: DomainClosure.
  Conditions: those of each theorem.
-/
import Derived.Test.YtjfnkmlnbaianaaGreatDQ
namespace Go.Proofs.YtjfnkmlnbaianaaGreat
open Go.E2 Go.Wage
theorem pre_take {a b : List Lt} (h : a <+: b) : b.take a.length = a := by
  obtain ⟨c, rfl⟩ := h
  rw [List.take_left]
theorem map_take {l : List Lt} {i : Nat} : (l.map ltav).take i = (l.take i).map ltav := by rw [List.map_take]
theorem end_facts {cs : List (List Lt)} {out : List Lt} {at1 : Int} (h : endU cs out at1) {k : Nat} (hk : k < cs.length) :
    ((staC out (cs.getD k default)).1 = 0 → 0 ≤ at1 ∧ at1 ≤ k) ∧ ((staC out (cs.getD k default)).1 = 1 → 0 ≤ at1) ∧ ((k : Int) = at1 → (staC out (cs.getD k default)).1 = 0) := by
  rcases h with ⟨h1, h2⟩ | ⟨i, h1, h2, h3, h4⟩
  · have h3 := h2 _ (getD_mem hk)
    refine ⟨fun h => ?_, fun h => ?_, fun h => by omega⟩
    · rw [sta_fal.1 h] at h3; cases h3.1
    · rw [sta_uni.1 h] at h3; cases h3.2
  · refine ⟨fun h => ⟨by omega, ?_⟩, fun _ => by omega, fun h => ?_⟩
    · by_cases hl : k < i
      · have := h4 k hl
        rw [sta_fal.1 h] at this
        cases this
      · omega
    · obtain rfl : k = i := by omega
      exact sta_fal.2 h3
theorem ex_snoc {α : Type} [Inhabited α] {P : α → Prop} {l : List α} {k : Nat} (hk : k < l.length) : (∃ x ∈ l.take (k + 1), P x) ↔ (∃ x ∈ l.take k, P x) ∨ P (l.getD k default) := by
  rw [List.take_succ_eq_append_getElem hk, ← getD_at' hk]
  constructor
  · rintro ⟨x, hx, h⟩
    rw [List.mem_append, List.mem_singleton] at hx
    rcases hx with hx | rfl
    · exact .inl ⟨x, hx, h⟩
    · exact .inr h
  · rintro (⟨x, hx, h⟩ | h)
    · exact ⟨x, List.mem_append_left _ hx, h⟩
    · exact ⟨_, List.mem_append_right _ (List.mem_singleton.2 rfl), h⟩
theorem sta_cond {out c : List Lt} {o : Lt} : (decide ((staC out c).1 = 1) && (decide ((staC out c).2.du = o.du) && (decide ((staC out c).2.wk = o.wk) && ((staC out c).2.is == o.is && true)))) = true ↔ uniC out c = true ∧ litC out c = o := by
  simp only [Bool.and_eq_true, decide_eq_true_eq, beq_iff_eq, and_true]
  constructor
  · rintro ⟨h1, h2, h3, h4⟩
    have hu := sta_uni.1 h1
    refine ⟨hu, ?_⟩
    rw [← sta_lit hu]
    exact Lt_eq h2 h3 h4
  · rintro ⟨hu, h⟩
    rw [sta_lit hu, h]
    exact ⟨sta_uni.2 hu, rfl, rfl, rfl⟩
set_option maxRecDepth 4000 in
set_option maxHeartbeats 8000000 in
theorem nClosure_all (cs : List (List Lt)) (given : List Lt) (hf : fewN cs given ≤ 2000000) : FnA Tryz.prog 5 [.sl 1 (clO cs), .sl 3 (given.map ltav)] (B true) := by
  have c0 := nHead_ok
  have c2 := nfew_ok cs given hf
  by_cases hw : fewN cs given ≤ 300
  · rw [decide_eq_true hw] at c2
    obtain ⟨f1, f2, f3⟩ := few_parts hw
    have hcl : (clO cs).length = cs.length := by simp
    have hgl : (given.map ltav).length = given.length := by simp
    have k1 := dmUnit_ok cs given (by omega) (fun c hc => by have := f3 c hc; omega) (by omega)
    have hul := unit_len cs given
    have hug := unit_ge cs given
    have hue := unit_end cs given
    obtain ⟨hpre, hst⟩ := unit_steps cs given
    generalize (unitU cs given).1 = out at *
    generalize (unitU cs given).2 = at1 at *
    have hol : (out.map ltav).length = out.length := by simp
    have hpl := hpre.length_le
    have k2 := g9Same_ok (out.take given.length) given (by rw [List.length_take]; omega) (by omega)
    rw [decide_eq_true (pre_take hpre)] at k2
    have k3 : FnA Tryz.prog 18 [.sl 3 (List.take ((given.map ltav).length : Int).toNat (out.map ltav)), .sl 3 (given.map ltav)] (B true) := by
      rw [hgl, Int.toNat_natCast, ← List.map_take]
      exact k2
    refine fn_run (T := tab) Tryz.func5 rfl Tryz.ntmps5 rfl Tryz.results5 (fun _ => ?_)
    repeat' ((conv => whnf) <;> (first | refine zM ?_ | refine zW ?_ | intro _ | exact zF | refine Br.tt ?_ | refine Br.ff ?_ | (refine Br.mk (fun h => ?_) (fun h => ?_) <;> (try simp only [sh] at h) <;> try first | (exfalso; omega) | exact absurd trivial h | (simp at h; done)) | refine zA ?_ | refine zN ?_ | refine zO ?_ | refine zP ?_ | refine zB ?_ | refine zL ent10 c0 ?_ | refine zG ent10 (fun h => c0) ?_ | refine zL ent12 c2 ?_ | refine zG ent12 (fun h => c2) ?_ | refine zL ent13 k1 ?_ | refine zG ent13 (fun h => k1) ?_ | refine zL ent18 k3 ?_ | refine zG ent18 (fun h => k3) ?_ | refine lB ?_ | refine lBA ?_ | refine zK ?_ | refine s1 ?_ | refine sA ?_ | refine zC ?_ | exact True.intro | fail))
    (conv => whnf); refine CK.loopK [4, 8, 9, 11, 12, 13, 56, 57, 58, 59, 60, 61, 62, 63, 64, 65, 66, 67, 68, 69, 70, 71, 72, 73, 74, 75, 76, 77, 78, 79, 80, 81, 82, 83, 84, 85, 86, 87, 88, 89, 90, 91, 92, 93] (σ := Nat) (fun i => given.length ≤ i ∧ i ≤ out.length) (fun i => [(8, I i)]) (fun _ => []) [] (fun i => out.length - i) given.length ⟨Nat.le_refl _, hpl⟩ (by simp only [List.length_map]; exact Qy) (by exact List.nil_sublist _) ?_
    conv => whnf
    rintro i ⟨i1, i2⟩
    by_cases hi : i < out.length
    · obtain ⟨s1', s2'⟩ := hst i i1 hi
      have htl : (out.take i).length = i := by rw [List.length_take]; omega
      repeat' ((conv => whnf) <;> (first | refine zM ?_ | refine zW ?_ | intro _ | exact zF | refine Br.tt ?_ | refine Br.ff ?_ | (refine Br.mk (fun h => ?_) (fun h => ?_) <;> (try simp only [sh] at h) <;> try first | (exfalso; omega) | exact absurd trivial h | (simp at h; done)) | refine zA ?_ | refine zN ?_ | refine zO ?_ | refine zP ?_ | refine zB ?_ | refine lB ?_ | refine lBA ?_ | refine zK ?_ | refine s1 ?_ | refine sA ?_ | refine zC ?_ | fail))
      (conv => whnf); refine CK.loopK [4, 9, 11, 12, 13, 64, 65, 66, 67, 68, 69, 70, 71, 72, 73, 74, 75, 76, 77, 78, 79, 80, 81, 82, 83, 84, 85, 86, 87, 88, 89, 90, 91] (σ := Nat × Bool) (fun s => s.1 ≤ cs.length ∧ (s.2 = true ↔ ∃ c ∈ cs.take s.1, uniC (out.take i) c = true ∧ litC (out.take i) c = out.getD i default)) (fun ⟨k, f⟩ => [(64, I k), (9, B f)]) (fun _ => []) [] (fun s => cs.length - s.1) (0, false) ⟨Nat.zero_le _, by simp⟩ Qy (by exact List.nil_sublist _) ?_
      conv => whnf
      rintro ⟨k, f⟩ ⟨j1, j2⟩
      simp only at j1 j2
      by_cases hk : k < cs.length
      · have hcm := f3 _ (getD_mem hk)
        have hnf := s1' _ (getD_mem hk)
        have c3 := g9State_ok (cs.getD k default) (out.take i) (by omega) (by omega)
        have c4 : FnA Tryz.prog 20 [.sl 3 ((cs.getD k default).map ltav), .sl 3 (List.take ((i : Int)).toNat (out.map ltav))] (.tup [I (staC (out.take i) (cs.getD k default)).1, ltav (staC (out.take i) (cs.getD k default)).2]) := by
          rw [Int.toNat_natCast, ← List.map_take]
          exact c3
        have hn0 : (staC (out.take i) (cs.getD k default)).1 ≠ 0 := fun h => by rw [sta_fal.1 h] at hnf; cases hnf
        repeat' ((conv => whnf) <;> (first | refine CK.anyK (id := 17) [0, 1, 2, 3, 4, 5, 6, 7, 8, 9, 10, 11, 12, 13] [] _ (List.Sublist.refl _) Qk ?_ | refine zM ?_ | refine zW ?_ | intro _ | exact zF | refine Br.tt ?_ | refine Br.ff ?_ | (refine Br.mk (fun h => ?_) (fun h => ?_) <;> (try simp only [sh] at h) <;> try first | (exfalso; omega) | exact absurd trivial h | (simp at h; done)) | refine zA ?_ | refine zN ?_ | refine zO ?_ | refine zP ?_ | refine zB ?_ | refine zL ent20 c4 ?_ | refine zG ent20 (fun h => c4) ?_ | refine Ask.of (Gr.eqlS rfl rfl rfl rfl (eqs47 _ _ _ _ _ _)) ?_ | refine Ask.of (Gr.neqS rfl rfl rfl rfl (eqs47 _ _ _ _ _ _)) ?_ | refine Ask.of (Gr.eqlS rfl rfl rfl rfl (eqs28 _ _ _ _)) ?_ | refine Ask.of (Gr.neqS rfl rfl rfl rfl (eqs28 _ _ _ _)) ?_ | refine Ask.of (Gr.eqlS rfl rfl rfl rfl (eqs188 _ _ _ _)) ?_ | refine Ask.of (Gr.neqS rfl rfl rfl rfl (eqs188 _ _ _ _)) ?_ | refine Ask.of (Gr.eqlS rfl rfl rfl rfl (eqs68 _ _ _ _ _ _ _ _)) ?_ | refine Ask.of (Gr.neqS rfl rfl rfl rfl (eqs68 _ _ _ _ _ _ _ _)) ?_ | refine lB ?_ | refine lBA ?_ | refine zK ?_ | refine s1 ?_ | refine sA ?_ | refine Kx.nil ?_ | refine Kx.stp rfl rfl Qs ?_ | refine kA ?_ | (refine Kx.frzR 0 rfl ?_ <;> refine kF ?_) | refine kP ?_ | refine k1 ?_ | refine kB ?_ | refine kL ?_ | refine zC ?_ | exact True.intro | fail))
        (conv => whnf); (refine Nxt.of ((k + 1, f || (decide ((staC (out.take i) (cs.getD k default)).1 = 1) && (decide ((staC (out.take i) (cs.getD k default)).2.du = (out.getD i default).du) && (decide ((staC (out.take i) (cs.getD k default)).2.wk = (out.getD i default).wk) && ((staC (out.take i) (cs.getD k default)).2.is == (out.getD i default).is && true)))))) [4, 9, 11, 12, 13, 64, 65, 66, 67, 68, 69, 70, 71, 72, 73, 74, 75, 76, 77, 78, 79, 80, 81, 82, 83, 84, 85, 86, 87, 88, 89, 90, 91] Qr Qr Qr ?_ ?_ Qy Qs <;> (try dsimp only) <;> (try omega))
        refine ⟨hk, ?_⟩
        rw [Bool.or_eq_true, j2, ex_snoc hk, sta_cond]
      · obtain rfl : k = cs.length := by omega
        rw [List.take_length] at j2
        obtain rfl : f = true := j2.2 s2'
        repeat' ((conv => whnf) <;> (first | refine zM ?_ | refine zW ?_ | intro _ | exact zF | refine Br.tt ?_ | refine Br.ff ?_ | (refine Br.mk (fun h => ?_) (fun h => ?_) <;> (try simp only [sh] at h) <;> try first | (exfalso; omega) | exact absurd trivial h | (simp at h; done)) | refine zA ?_ | refine zN ?_ | refine zO ?_ | refine zP ?_ | refine zB ?_ | refine lB ?_ | refine lBA ?_ | refine zK ?_ | refine s1 ?_ | refine sA ?_ | refine zC ?_ | fail))
        (conv => whnf); (refine Nxt.of (i + 1) [4, 8, 9, 11, 12, 13, 56, 57, 58, 59, 60, 61, 62, 63, 64, 65, 66, 67, 68, 69, 70, 71, 72, 73, 74, 75, 76, 77, 78, 79, 80, 81, 82, 83, 84, 85, 86, 87, 88, 89, 90, 91, 92, 93] Qr Qr Qr ?_ ?_ Qy Qs <;> (try dsimp only) <;> (try omega))
    · obtain rfl : i = out.length := by omega
      repeat' ((conv => whnf) <;> (first | refine zM ?_ | refine zW ?_ | intro _ | exact zF | refine Br.tt ?_ | refine Br.ff ?_ | (refine Br.mk (fun h => ?_) (fun h => ?_) <;> (try simp only [sh] at h) <;> try first | (exfalso; omega) | exact absurd trivial h | (simp at h; done)) | refine zA ?_ | refine zN ?_ | refine zO ?_ | refine zP ?_ | refine zB ?_ | refine lB ?_ | refine lBA ?_ | refine zK ?_ | refine s1 ?_ | refine sA ?_ | refine zC ?_ | fail))
      (conv => whnf); refine CK.loopK [4, 14, 15, 16, 17, 96, 97, 98, 99, 100, 101, 102, 103, 104, 105, 106, 107, 108, 109, 110, 111, 112, 113, 114, 115, 116, 117, 118, 119, 120, 121, 122, 123, 124, 125, 126, 127, 128, 129, 130, 131, 132, 133, 134, 135] (σ := Nat) (fun k => k ≤ cs.length) (fun k => [(96, I k)]) (fun _ => []) [] (fun k => cs.length - k) 0 (Nat.zero_le _) Qy (by exact List.nil_sublist _) ?_
      conv => whnf
      rintro k j1
      by_cases hk : k < cs.length
      · have hcm := f3 _ (getD_mem hk)
        have c3 := g9State_ok (cs.getD k default) out (by omega) (by omega)
        obtain ⟨e1, e2, e3⟩ := end_facts hue hk
        repeat' ((conv => whnf) <;> (first | refine zM ?_ | refine zW ?_ | intro _ | exact zF | refine Br.tt ?_ | refine Br.ff ?_ | (refine Br.mk (fun h => ?_) (fun h => ?_) <;> (try simp only [sh] at h) <;> try first | (exfalso; omega) | exact absurd trivial h | (simp at h; done)) | refine zA ?_ | refine zN ?_ | refine zO ?_ | refine zP ?_ | refine zB ?_ | refine zL ent20 c3 ?_ | refine zG ent20 (fun h => c3) ?_ | refine lB ?_ | refine lBA ?_ | refine zK ?_ | refine s1 ?_ | refine sA ?_ | refine zC ?_ | exact True.intro | fail))
        (conv => whnf); (refine Nxt.of (k + 1) [4, 14, 15, 16, 17, 96, 97, 98, 99, 100, 101, 102, 103, 104, 105, 106, 107, 108, 109, 110, 111, 112, 113, 114, 115, 116, 117, 118, 119, 120, 121, 122, 123, 124, 125, 126, 127, 128, 129, 130, 131, 132, 133, 134, 135] Qr Qr Qr ?_ ?_ Qy Qs <;> (try dsimp only) <;> (try omega))
      · obtain rfl : k = cs.length := by omega
        repeat' ((conv => whnf) <;> (first | refine zM ?_ | refine zW ?_ | intro _ | exact zF | refine Br.tt ?_ | refine Br.ff ?_ | (refine Br.mk (fun h => ?_) (fun h => ?_) <;> (try simp only [sh] at h) <;> try first | (exfalso; omega) | exact absurd trivial h | (simp at h; done)) | refine zA ?_ | refine zN ?_ | refine zO ?_ | refine zP ?_ | refine zB ?_ | refine lB ?_ | refine lBA ?_ | refine zK ?_ | refine s1 ?_ | refine sA ?_ | refine zC ?_ | fail))
  · rw [decide_eq_false hw] at c2
    refine fn_run (T := tab) Tryz.func5 rfl Tryz.ntmps5 rfl Tryz.results5 (fun _ => ?_)
    repeat' ((conv => whnf) <;> (first | refine zM ?_ | refine zW ?_ | intro _ | exact zF | refine Fin.pure ?_ | refine Br.tt ?_ | refine Br.ff ?_ | (refine Br.mk (fun h => ?_) (fun h => ?_) <;> (try simp only [sh] at h) <;> try first | (exfalso; omega) | exact absurd trivial h | (simp at h; done)) | refine zA ?_ | refine zN ?_ | refine zO ?_ | refine zP ?_ | refine zB ?_ | refine zL ent10 c0 ?_ | refine zG ent10 (fun h => c0) ?_ | refine zL ent12 c2 ?_ | refine zG ent12 (fun h => c2) ?_ | refine lB ?_ | refine lBA ?_ | refine zK ?_ | refine s1 ?_ | refine sA ?_ | refine zC ?_ | exact True.intro | fail))
end Go.Proofs.YtjfnkmlnbaianaaGreat
