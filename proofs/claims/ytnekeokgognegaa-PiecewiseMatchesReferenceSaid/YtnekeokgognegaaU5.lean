/-
  Walks: the references' Same, the head of the laws.
  Conditions: those of each theorem.
-/
import Derived.Test.YtnekeokgognegaaU4
namespace Go.Proofs.Ytnekeokgognegaa
open Go.E2 Go.Wage
theorem take_eq {α : Type} [Inhabited α] {a b : List α} {k : Nat} (hl : a.length = b.length) (hk : k < a.length) (h : a.take k = b.take k) (e : a.getD k default = b.getD k default) : a.take (k + 1) = b.take (k + 1) := by
  rw [List.take_succ_eq_append_getElem hk, List.take_succ_eq_append_getElem (by omega), h]
  rw [List.getD_eq_getElem?_getD, List.getD_eq_getElem?_getD, List.getElem?_eq_getElem hk, List.getElem?_eq_getElem (by omega)] at e
  simp only [Option.getD_some] at e
  rw [e]
set_option maxHeartbeats 4000000 in
theorem r4Same_ok (a b : List Sp) (_hlen : a.length ≤ 1000000000) (_hb : b.length ≤ 1000000000) : FnA Try.prog 19 [.sl 2 (a.map spav), .sl 2 (b.map spav)] (B (decide (a = b))) := by
  have hla : (a.map spav).length = a.length := by simp
  have hlb : (b.map spav).length = b.length := by simp
  refine fn_run (T := tab) Try.func19 rfl Try.ntmps19 rfl Try.results19 (fun _ => ?_)
  by_cases hl : a.length = b.length
  · repeat' ((conv => whnf) <;> (first | refine zM ?_ | refine zW ?_ | intro _ | exact zF | refine Br.tt ?_ | refine Br.ff ?_ | (refine Br.mk (fun h => ?_) (fun h => ?_) <;> (try simp only [sh] at h) <;> try first | (exfalso; omega) | exact absurd trivial h | (simp at h; done)) | refine zA ?_ | refine zN ?_ | refine zO ?_ | refine zP ?_ | refine zB ?_ | refine lB ?_ | refine lBA ?_ | refine zK ?_ | refine s1 ?_ | refine sA ?_ | refine zC ?_ | fail))
    (conv => whnf); refine CK.loopK [4, 5, 11, 12, 13, 14, 15, 16, 17, 18, 19, 20, 21, 22, 23, 24, 25] (σ := Nat) (fun k => k ≤ a.length ∧ a.take k = b.take k) (fun k => [(5, I k)]) (fun _ => []) [] (fun k => a.length - k) 0 ⟨Nat.zero_le _, rfl⟩ Qy (List.Sublist.refl _) ?_
    conv => whnf
    rintro k ⟨i1, i2⟩
    by_cases hk : k < a.length
    · repeat' ((conv => whnf) <;> (first | refine zM ?_ | refine zW ?_ | intro _ | exact zF | refine Br.tt ?_ | refine Br.ff ?_ | (refine Br.mk (fun h => ?_) (fun h => ?_) <;> (try simp only [sh] at h) <;> try first | (exfalso; omega) | exact absurd trivial h | (simp at h; done)) | refine zA ?_ | refine zN ?_ | refine zO ?_ | refine zP ?_ | refine zB ?_ | refine Ask.of (Gr.eqlS rfl rfl rfl rfl (eqs55 _ _ _ _ _ _)) ?_ | refine Ask.of (Gr.neqS rfl rfl rfl rfl (eqs55 _ _ _ _ _ _)) ?_ | refine Ask.of (Gr.eqlS rfl rfl rfl rfl (eqs50 _ _ _ _)) ?_ | refine Ask.of (Gr.neqS rfl rfl rfl rfl (eqs50 _ _ _ _)) ?_ | refine lB ?_ | refine lBA ?_ | refine zK ?_ | refine s1 ?_ | refine sA ?_ | refine Kx.nil ?_ | refine Kx.stp rfl rfl Qs ?_ | refine kA ?_ | (refine Kx.frzR 0 rfl ?_ <;> refine kF ?_) | refine kP ?_ | refine k1 ?_ | refine kB ?_ | refine kL ?_ | refine zC ?_ | fail))
      · conv => whnf
        refine .out _ (by exact List.nil_sublist _) ⟨congrArg B ?_, rfl⟩
        refine (decide_eq_false fun e => ?_).symm
        rw [e] at h
        simp at h
      · (conv => whnf); (refine Nxt.of (k + 1) [4, 5, 11, 12, 13, 14, 15, 16, 17, 18, 19, 20, 21, 22, 23, 24, 25] Qr Qr Qr ?_ ?_ Qy Qs <;> (try dsimp only) <;> (try omega))
        exact ⟨hk, take_eq hl hk i2 (Prod.ext h.1 h.2)⟩
    · rw [List.take_of_length_le (by omega), List.take_of_length_le (by omega)] at i2
      repeat' ((conv => whnf) <;> (first | refine zM ?_ | refine zW ?_ | intro _ | exact zF | refine Br.tt ?_ | refine Br.ff ?_ | (refine Br.mk (fun h => ?_) (fun h => ?_) <;> (try simp only [sh] at h) <;> try first | (exfalso; omega) | exact absurd trivial h | (simp at h; done)) | refine zA ?_ | refine zN ?_ | refine zO ?_ | refine zP ?_ | refine zB ?_ | refine lB ?_ | refine lBA ?_ | refine zK ?_ | refine s1 ?_ | refine sA ?_ | refine zC ?_ | fail))
      conv => whnf
      exact .out _ (by exact List.nil_sublist _) ⟨congrArg B (decide_eq_true i2).symm, rfl⟩
  · repeat' ((conv => whnf) <;> (first | refine zM ?_ | refine zW ?_ | intro _ | exact zF | refine Br.tt ?_ | refine Br.ff ?_ | (refine Br.mk (fun h => ?_) (fun h => ?_) <;> (try simp only [sh] at h) <;> try first | (exfalso; omega) | exact absurd trivial h | (simp at h; done)) | refine zA ?_ | refine zN ?_ | refine zO ?_ | refine zP ?_ | refine zB ?_ | refine lB ?_ | refine lBA ?_ | refine zK ?_ | refine s1 ?_ | refine sA ?_ | refine zC ?_ | fail))
    · conv => whnf
      exact .out _ (by exact List.nil_sublist _) ⟨congrArg B (decide_eq_false fun e => hl (by rw [e])).symm, rfl⟩
theorem Pc_eq {a b : Pc} (h1 : a.frm = b.frm) (h2 : a.at_ = b.at_) (h3 : a.slope = b.slope) : a = b := by
  cases a; cases b; simp_all
set_option maxHeartbeats 4000000 in
theorem r5Same_ok (d e : Int) (a b : List Pc) (_hlen : a.length ≤ 1000000000) (_hb : b.length ≤ 1000000000) : FnA Try.prog 18 [fav d a, fav e b] (B (decide (d = e ∧ a = b))) := by
  have hla : (a.map pav).length = a.length := by simp
  have hlb : (b.map pav).length = b.length := by simp
  refine fnM_run (T := tab) Try.func18 rfl Try.ntmps18 rfl Try.results18 (fun _ => ?_)
  by_cases hl : d = e ∧ a.length = b.length
  · repeat' ((conv => whnf) <;> (first | refine zM ?_ | refine zW ?_ | intro _ | exact zF | refine Br.tt ?_ | refine Br.ff ?_ | (refine Br.mk (fun h => ?_) (fun h => ?_) <;> (try simp only [sh] at h) <;> try first | (exfalso; omega) | exact absurd trivial h | (simp at h; done)) | refine zA ?_ | refine zN ?_ | refine zO ?_ | refine zP ?_ | refine zB ?_ | refine lB ?_ | refine lBA ?_ | refine zK ?_ | refine s1 ?_ | refine sA ?_ | refine zC ?_ | fail))
    (conv => whnf); refine CK.loopK [4, 5, 20, 21, 22, 23, 24, 25, 26, 27, 28, 29, 30, 31, 32, 33, 34, 35, 36, 37] (σ := Nat) (fun k => k ≤ a.length ∧ a.take k = b.take k) (fun k => [(5, I k)]) (fun _ => []) _ (fun k => a.length - k) 0 ⟨Nat.zero_le _, rfl⟩ Qy (List.Sublist.refl _) ?_
    conv => whnf
    rintro k ⟨i1, i2⟩
    by_cases hk : k < a.length
    · repeat' ((conv => whnf) <;> (first | refine zM ?_ | refine zW ?_ | intro _ | exact zF | refine Br.tt ?_ | refine Br.ff ?_ | (refine Br.mk (fun h => ?_) (fun h => ?_) <;> (try simp only [sh] at h) <;> try first | (exfalso; omega) | exact absurd trivial h | (simp at h; done)) | refine zA ?_ | refine zN ?_ | refine zO ?_ | refine zP ?_ | refine zB ?_ | refine Ask.of (Gr.eqlS rfl rfl rfl rfl (eqs55 _ _ _ _ _ _)) ?_ | refine Ask.of (Gr.neqS rfl rfl rfl rfl (eqs55 _ _ _ _ _ _)) ?_ | refine Ask.of (Gr.eqlS rfl rfl rfl rfl (eqs50 _ _ _ _)) ?_ | refine Ask.of (Gr.neqS rfl rfl rfl rfl (eqs50 _ _ _ _)) ?_ | refine lB ?_ | refine lBA ?_ | refine zK ?_ | refine s1 ?_ | refine sA ?_ | refine Kx.nil ?_ | refine Kx.stp rfl rfl Qs ?_ | refine kA ?_ | (refine Kx.frzR 0 rfl ?_ <;> refine kF ?_) | refine kP ?_ | refine k1 ?_ | refine kB ?_ | refine kL ?_ | refine zC ?_ | fail))
      · rw [show decide (d = e ∧ a = b) = false from decide_eq_false fun g => by rw [g.2] at h; simp at h]
        repeat' ((conv => whnf) <;> (first | refine zM ?_ | refine zW ?_ | intro _ | exact zF | refine Br.tt ?_ | refine Br.ff ?_ | (refine Br.mk (fun h => ?_) (fun h => ?_) <;> (try simp only [sh] at h) <;> try first | (exfalso; omega) | exact absurd trivial h | (simp at h; done)) | refine zA ?_ | refine zN ?_ | refine zO ?_ | refine zP ?_ | refine zB ?_ | refine lB ?_ | refine lBA ?_ | refine zK ?_ | refine s1 ?_ | refine sA ?_ | refine zC ?_ | fail))
      · repeat' ((conv => whnf) <;> (first | refine zM ?_ | refine zW ?_ | intro _ | exact zF | refine Br.tt ?_ | refine Br.ff ?_ | (refine Br.mk (fun h => ?_) (fun h => ?_) <;> (try simp only [sh] at h) <;> try first | (exfalso; omega) | exact absurd trivial h | (simp at h; done)) | refine zA ?_ | refine zN ?_ | refine zO ?_ | refine zP ?_ | refine zB ?_ | refine lB ?_ | refine lBA ?_ | refine zK ?_ | refine s1 ?_ | refine sA ?_ | refine Kx.nil ?_ | refine Kx.stp rfl rfl Qs ?_ | refine kA ?_ | (refine Kx.frzR 0 rfl ?_ <;> refine kF ?_) | refine kP ?_ | refine k1 ?_ | refine kB ?_ | refine kL ?_ | refine zC ?_ | fail))
        (conv => whnf); (refine Nxt.of (k + 1) [4, 5, 20, 21, 22, 23, 24, 25, 26, 27, 28, 29, 30, 31, 32, 33, 34, 35, 36, 37] Qr Qr Qr ?_ ?_ Qy Qs <;> (try dsimp only) <;> (try omega))
        exact ⟨hk, take_eq hl.2 hk i2 (Pc_eq h.1 h.2.1 h.2.2)⟩
    · rw [List.take_of_length_le (by omega), List.take_of_length_le (by omega)] at i2
      repeat' ((conv => whnf) <;> (first | refine zM ?_ | refine zW ?_ | intro _ | exact zF | refine Br.tt ?_ | refine Br.ff ?_ | (refine Br.mk (fun h => ?_) (fun h => ?_) <;> (try simp only [sh] at h) <;> try first | (exfalso; omega) | exact absurd trivial h | (simp at h; done)) | refine zA ?_ | refine zN ?_ | refine zO ?_ | refine zP ?_ | refine zB ?_ | refine lB ?_ | refine lBA ?_ | refine zK ?_ | refine s1 ?_ | refine sA ?_ | refine zC ?_ | fail))
      conv => whnf
      exact .out _ (by exact List.nil_sublist _) ⟨congrArg B (decide_eq_true ⟨hl.1, i2⟩).symm, rfl⟩
  · rw [show decide (d = e ∧ a = b) = false from decide_eq_false fun g => hl ⟨g.1, by rw [g.2]⟩]
    repeat' ((conv => whnf) <;> (first | refine zM ?_ | refine zW ?_ | intro _ | exact zF | refine Br.tt ?_ | refine Br.ff ?_ | (refine Br.mk (fun h => ?_) (fun h => ?_) <;> (try simp only [sh] at h) <;> try first | (exfalso; omega) | exact absurd trivial h | (simp at h; done)) | refine zA ?_ | refine zN ?_ | refine zO ?_ | refine zP ?_ | refine zB ?_ | refine lB ?_ | refine lBA ?_ | refine zK ?_ | refine s1 ?_ | refine sA ?_ | refine zC ?_ | fail))
    repeat' ((conv => whnf) <;> (first | refine zM ?_ | refine zW ?_ | intro _ | exact zF | refine Br.tt ?_ | refine Br.ff ?_ | (refine Br.mk (fun h => ?_) (fun h => ?_) <;> (try simp only [sh] at h) <;> try first | (exfalso; omega) | exact absurd trivial h | (simp at h; done)) | refine zA ?_ | refine zN ?_ | refine zO ?_ | refine zP ?_ | refine zB ?_ | refine lB ?_ | refine lBA ?_ | refine zK ?_ | refine s1 ?_ | refine sA ?_ | refine zC ?_ | fail))
def hf : List Pc := [⟨0, 0, 1⟩, ⟨10, 10, 4⟩]
def hg : List Pc := [⟨0, 12, 0⟩]
theorem h_starts : startsR hf hg = [0, 10] := by
  refine asc_uniq (srtI_asc _) (by decide) fun x => ?_
  unfold startsR
  rw [srtI_mem]
  simp [hf, hg]
  omega
theorem h_starts1 : startsR hf [] = [0, 10] := by
  refine asc_uniq (srtI_asc _) (by decide) fun x => ?_
  unfold startsR
  rw [srtI_mem]
  simp [hf]
theorem h_sum : chkR 2 (sumPs hf hg) = ((2, [⟨0, 12, 1⟩, ⟨10, 22, 4⟩]), 0) := by
  unfold sumPs
  rw [h_starts]
  decide
theorem h_least : chkR 2 (lsR hf hg (spsR hf hg).length) = ((2, [⟨0, 0, 1⟩, ⟨10, 10, 4⟩, ⟨11, 12, 0⟩]), 0) := by
  unfold lsR spsR
  rw [h_starts]
  decide
theorem h_where : nrm (fndR 2 2 5 hf (spsR hf []).length) = [(4, 11)] := by
  unfold fndR spsR
  rw [h_starts1]
  decide
end Go.Proofs.Ytnekeokgognegaa
