/-
  Walks: law 19: consistent, within, DomainMonotony.
  Conditions: those of each theorem.
-/
import Derived.Test.YtjfnkmlnbaianaaGreatDQ
namespace Go.Proofs.YtjfnkmlnbaianaaGreat
open Go.E2 Go.Wage
def consB (l : List Lt) : Bool := l.all fun x => !l.contains (negL x)
theorem consB_iff {l : List Lt} : consB l = true ↔ ∀ x ∈ l, negL x ∉ l := by
  unfold consB
  rw [List.all_eq_true]
  constructor
  · intro h x hx hn
    have := h x hx
    rw [List.contains_iff_mem.2 hn] at this
    cases this
  · intro h x hx
    rw [Bool.not_eq_true', List.contains_eq_mem, decide_eq_false_iff_not]
    exact h x hx
theorem all_stp {α : Type} [Inhabited α] {f : α → Bool} {l : List α} {k : Nat} (hk : k < l.length) (h : (l.take k).all f = true) (h1 : f (l.getD k default) = true) : (l.take (k + 1)).all f = true := by
  rw [List.take_succ_eq_append_getElem hk, List.all_append, h, ← getD_at' hk, List.all_cons, h1]
  rfl
theorem all_f {α : Type} [Inhabited α] {f : α → Bool} {l : List α} {k : Nat} (hk : k < l.length) (h1 : f (l.getD k default) = false) : l.all f = false := by
  rw [List.all_eq_false]
  exact ⟨_, getD_mem hk, by rw [h1]; simp⟩
set_option maxHeartbeats 8000000 in
theorem ncons_ok (l : List Lt) (hl : l.length ≤ 1000000) : FnA Tryz.prog 21 [.sl 3 (l.map ltav)] (B (consB l)) := by
  have hll : (l.map ltav).length = l.length := by simp
  refine fn_run (T := tab) Tryz.func21 rfl Tryz.ntmps21 rfl Tryz.results21 (fun _ => ?_)
  repeat' ((conv => whnf) <;> (first | refine zM ?_ | refine zW ?_ | intro _ | exact zF | refine Br.tt ?_ | refine Br.ff ?_ | (refine Br.mk (fun h => ?_) (fun h => ?_) <;> (try simp only [sh] at h) <;> try first | (exfalso; omega) | exact absurd trivial h | (simp at h; done)) | refine zA ?_ | refine zN ?_ | refine zO ?_ | refine zP ?_ | refine zB ?_ | refine zR ?_ | refine Rem.t Qw ?_ | refine lB ?_ | refine lBA ?_ | refine zK ?_ | refine s1 ?_ | refine sA ?_ | refine zC ?_ | fail))
  (conv => whnf); refine CK.loopK [2, 4, 7, 8, 9, 10, 11, 12, 13, 14, 15, 16, 17, 18] (σ := Nat) (fun k => k ≤ l.length ∧ (l.take k).all (fun x => !l.contains (negL x)) = true) (fun k => [(7, I k)]) (fun _ => []) [] (fun k => l.length - k) 0 ⟨Nat.zero_le _, rfl⟩ Qy (by exact List.nil_sublist _) ?_
  conv => whnf
  rintro k ⟨i1, i2⟩
  by_cases hk : k < l.length
  · have c1 := g9Has_ok l (negL (l.getD k default)) hl
    repeat' ((conv => whnf) <;> (first | refine zM ?_ | refine zW ?_ | intro _ | exact zF | refine Br.tt ?_ | refine Br.ff ?_ | (refine Br.mk (fun h => ?_) (fun h => ?_) <;> (try simp only [sh] at h) <;> try first | (exfalso; omega) | exact absurd trivial h | (simp at h; done)) | refine zA ?_ | refine zN ?_ | refine zO ?_ | refine zP ?_ | refine zB ?_ | refine zR ?_ | refine Rem.t Qw ?_ | refine zL ent42 c1 ?_ | refine zG ent42 (fun h => c1) ?_ | refine lB ?_ | refine lBA ?_ | refine zK ?_ | refine s1 ?_ | refine sA ?_ | refine zC ?_ | fail))
    · conv => whnf
      refine .out _ (by exact List.nil_sublist _) ⟨congrArg B ?_, rfl⟩
      exact (all_f hk (by rw [h]; rfl)).symm
    · (conv => whnf); (refine Nxt.of (k + 1) [2, 4, 7, 8, 9, 10, 11, 12, 13, 14, 15, 16, 17, 18] Qr Qr Qr ?_ ?_ Qy Qs <;> (try dsimp only) <;> (try omega))
      exact ⟨hk, all_stp hk i2 (by rw [h]; rfl)⟩
  · obtain rfl : k = l.length := by omega
    rw [List.take_length] at i2
    repeat' ((conv => whnf) <;> (first | refine zM ?_ | refine zW ?_ | intro _ | exact zF | refine Br.tt ?_ | refine Br.ff ?_ | (refine Br.mk (fun h => ?_) (fun h => ?_) <;> (try simp only [sh] at h) <;> try first | (exfalso; omega) | exact absurd trivial h | (simp at h; done)) | refine zA ?_ | refine zN ?_ | refine zO ?_ | refine zP ?_ | refine zB ?_ | refine zR ?_ | refine Rem.t Qw ?_ | refine lB ?_ | refine lBA ?_ | refine zK ?_ | refine s1 ?_ | refine sA ?_ | refine zC ?_ | fail))
    conv => whnf
    exact .out _ (by exact List.nil_sublist _) ⟨congrArg B i2.symm, rfl⟩
def withB (a b : List Lt) : Bool := a.all b.contains
set_option maxHeartbeats 8000000 in
theorem nwithin_ok (a b : List Lt) (ha : a.length ≤ 1000000) (hb : b.length ≤ 1000000) : FnA Tryz.prog 23 [.sl 3 (a.map ltav), .sl 3 (b.map ltav)] (B (withB a b)) := by
  have hll : (a.map ltav).length = a.length := by simp
  refine fn_run (T := tab) Tryz.func23 rfl Tryz.ntmps23 rfl Tryz.results23 (fun _ => ?_)
  repeat' ((conv => whnf) <;> (first | refine zM ?_ | refine zW ?_ | intro _ | exact zF | refine Br.tt ?_ | refine Br.ff ?_ | (refine Br.mk (fun h => ?_) (fun h => ?_) <;> (try simp only [sh] at h) <;> try first | (exfalso; omega) | exact absurd trivial h | (simp at h; done)) | refine zA ?_ | refine zN ?_ | refine zO ?_ | refine zP ?_ | refine zB ?_ | refine zR ?_ | refine Rem.t Qw ?_ | refine lB ?_ | refine lBA ?_ | refine zK ?_ | refine s1 ?_ | refine sA ?_ | refine zC ?_ | fail))
  (conv => whnf); refine CK.loopK [4, 6, 9, 10, 11, 12, 13, 14, 15, 16, 17] (σ := Nat) (fun k => k ≤ a.length ∧ (a.take k).all b.contains = true) (fun k => [(9, I k)]) (fun _ => []) [] (fun k => a.length - k) 0 ⟨Nat.zero_le _, rfl⟩ Qy (by exact List.nil_sublist _) ?_
  conv => whnf
  rintro k ⟨i1, i2⟩
  by_cases hk : k < a.length
  · have c1 := g9Has_ok b (a.getD k default) hb
    repeat' ((conv => whnf) <;> (first | refine zM ?_ | refine zW ?_ | intro _ | exact zF | refine Br.tt ?_ | refine Br.ff ?_ | (refine Br.mk (fun h => ?_) (fun h => ?_) <;> (try simp only [sh] at h) <;> try first | (exfalso; omega) | exact absurd trivial h | (simp at h; done)) | refine zA ?_ | refine zN ?_ | refine zO ?_ | refine zP ?_ | refine zB ?_ | refine zR ?_ | refine Rem.t Qw ?_ | refine zL ent42 c1 ?_ | refine zG ent42 (fun h => c1) ?_ | refine lB ?_ | refine lBA ?_ | refine zK ?_ | refine s1 ?_ | refine sA ?_ | refine zC ?_ | fail))
    · conv => whnf
      refine .out _ (by exact List.nil_sublist _) ⟨congrArg B ?_, rfl⟩
      exact (all_f hk h).symm
    · (conv => whnf); (refine Nxt.of (k + 1) [4, 6, 9, 10, 11, 12, 13, 14, 15, 16, 17] Qr Qr Qr ?_ ?_ Qy Qs <;> (try dsimp only) <;> (try omega))
      exact ⟨hk, all_stp hk i2 h⟩
  · obtain rfl : k = a.length := by omega
    rw [List.take_length] at i2
    repeat' ((conv => whnf) <;> (first | refine zM ?_ | refine zW ?_ | intro _ | exact zF | refine Br.tt ?_ | refine Br.ff ?_ | (refine Br.mk (fun h => ?_) (fun h => ?_) <;> (try simp only [sh] at h) <;> try first | (exfalso; omega) | exact absurd trivial h | (simp at h; done)) | refine zA ?_ | refine zN ?_ | refine zO ?_ | refine zP ?_ | refine zB ?_ | refine zR ?_ | refine Rem.t Qw ?_ | refine lB ?_ | refine lBA ?_ | refine zK ?_ | refine s1 ?_ | refine sA ?_ | refine zC ?_ | fail))
    conv => whnf
    exact .out _ (by exact List.nil_sublist _) ⟨congrArg B i2.symm, rfl⟩
theorem withB_of {a b : List Lt} (h : ∀ l ∈ a, l ∈ b) : withB a b = true := by
  unfold withB
  rw [List.all_eq_true]
  exact fun x hx => List.contains_iff_mem.2 (h x hx)
theorem one_tk (n : Nat) (l : List Lt) : (((l.map ltav).take n).flatMap AV.cells).all AV.one = true := by rw [← List.map_take]; exact one_lits _
theorem one_dr (n : Nat) (l : List Lt) : (((l.map ltav).drop n).flatMap AV.cells).all AV.one = true := by rw [← List.map_drop]; exact one_lits _
set_option maxRecDepth 4000 in
set_option maxHeartbeats 8000000 in
theorem nMono_all (cs : List (List Lt)) (given : List Lt) (pick : Int) (hp : 0 ≤ pick ∧ pick ≤ 255) (hf : fewN cs given ≤ 2000000) : FnA Tryz.prog 7 [.sl 1 (clO cs), .sl 3 (given.map ltav), U8 pick] (B true) := by
  have c0 := nHead_ok
  have c2 := nfew_ok cs given hf
  have hgl : (given.map ltav).length = given.length := by simp
  by_cases hw : fewN cs given ≤ 300
  · rw [decide_eq_true hw] at c2
    obtain ⟨f1, f2, f3⟩ := few_parts hw
    have c3 := ncons_ok given (by omega)
    by_cases hc : consB given = true
    · rw [hc] at c3
      by_cases h0 : given.length = 0
      · refine fn_run (T := tab) Tryz.func7 rfl Tryz.ntmps7 rfl Tryz.results7 (fun _ => ?_)
        repeat' ((conv => whnf) <;> (first | refine zM ?_ | refine zW ?_ | intro _ | exact zF | refine Fin.pure ?_ | refine Br.tt ?_ | refine Br.ff ?_ | (refine Br.mk (fun h => ?_) (fun h => ?_) <;> (try simp only [sh] at h) <;> try first | (exfalso; omega) | exact absurd trivial h | (simp at h; done)) | refine zA ?_ | refine zN ?_ | refine zO ?_ | refine zP ?_ | refine zB ?_ | refine zR ?_ | refine Rem.t Qw ?_ | refine zL ent10 c0 ?_ | refine zG ent10 (fun h => c0) ?_ | refine zL ent12 c2 ?_ | refine zG ent12 (fun h => c2) ?_ | refine zL ent21 c3 ?_ | refine zG ent21 (fun h => c3) ?_ | refine lB ?_ | refine lBA ?_ | refine zK ?_ | refine s1 ?_ | refine sA ?_ | refine zC ?_ | exact True.intro | fail))
      · generalize hk : pick % ((given.map ltav).length : Int) = k
        have hk1 : 0 ≤ k ∧ k < given.length := by
          have h1 := Int.emod_nonneg pick (b := ((given.map ltav).length : Int)) (by omega)
          have h2 := Int.emod_lt_of_pos pick (b := ((given.map ltav).length : Int)) (by omega)
          omega
        have k1 := dmUnit_ok cs given (by omega) (fun c hc => by have := f3 c hc; omega) (by omega)
        have k2 := dmUnit_ok cs (given.take k.toNat ++ given.drop (k + 1).toNat) (by omega) (fun c hc => by have := f3 c hc; omega) (by simp only [List.length_append, List.length_take, List.length_drop]; omega)
        have hul := unit_len cs given
        have hul2 := unit_len cs (given.take k.toNat ++ given.drop (k + 1).toNat)
        have hfl : (given.take k.toNat ++ given.drop (k + 1).toNat).length ≤ given.length := by simp only [List.length_append, List.length_take, List.length_drop]; omega
        have hsub := fun h => unit_sub (cs := cs) (cs' := cs) (g := given) (g' := given.take k.toNat ++ given.drop (k + 1).toNat) (fun _ h => h) (fun l hl => by
          rcases List.mem_append.1 hl with hl | hl
          · exact List.mem_of_mem_take hl
          · exact List.mem_of_mem_drop hl) (consB_iff.1 hc) h
        have hge := unit_ge cs given
        rw [List.map_append, List.map_take, List.map_drop] at k2
        generalize hfw : given.take k.toNat ++ given.drop (k + 1).toNat = fewer at *
        generalize (unitU cs fewer).1 = o2 at *
        generalize (unitU cs fewer).2 = a2 at *
        generalize (unitU cs given).1 = o1 at *
        generalize (unitU cs given).2 = a1 at *
        have k3 := nwithin_ok o2 o1 (by omega) (by omega)
        refine fn_run (T := tab) Tryz.func7 rfl Tryz.ntmps7 rfl Tryz.results7 (fun _ => ?_)
        repeat' ((conv => whnf) <;> (first | (refine Kx.eff rfl (Eff.app (T := tab) 0 rfl rfl rfl rfl rfl Qb (one_dr _ _) (by simp only [List.length_append, List.length_take, List.length_drop, List.length_map, List.length_nil]; omega)) (by rintro _ _ ⟨_, rfl, rfl⟩; exact Qs) ?_ <;> rintro _ _ ⟨_, rfl, rfl⟩) | (refine Kx.eff rfl (Eff.app (T := tab) 0 rfl rfl rfl rfl rfl Qb (one_tk _ _) (by simp only [List.length_take, List.length_map, List.length_nil]; omega)) (by rintro _ _ ⟨_, rfl, rfl⟩; exact Qs) ?_ <;> rintro _ _ ⟨_, rfl, rfl⟩) | (refine Kx.eff rfl (Eff.bsl (T := tab) (ps := []) rfl rfl rfl rfl) (by rintro _ _ ⟨_, rfl, rfl⟩; exact Qs) ?_ <;> rintro _ _ ⟨v0, rfl, rfl⟩) | refine CK.anyK (id := 5) [1, 2, 3, 5, 6, 7, 8] [0, 4, 9, 10] _ (List.Sublist.refl _) Qk ?_ | refine zM ?_ | refine zW ?_ | intro _ | exact zF | refine Br.tt ?_ | refine Br.ff ?_ | (refine Br.mk (fun h => ?_) (fun h => ?_) <;> (try simp only [sh] at h) <;> try first | (exfalso; omega) | exact absurd trivial h | (simp at h; done)) | refine zA ?_ | refine zN ?_ | refine zO ?_ | refine zP ?_ | refine zB ?_ | refine zR ?_ | refine Rem.t Qw ?_ | refine zL ent10 c0 ?_ | refine zG ent10 (fun h => c0) ?_ | refine zL ent12 c2 ?_ | refine zG ent12 (fun h => c2) ?_ | refine zL ent21 c3 ?_ | refine zG ent21 (fun h => c3) ?_ | refine lB ?_ | refine lBA ?_ | refine zK ?_ | refine s1 ?_ | refine sA ?_ | refine Kx.nil ?_ | refine Kx.stp rfl rfl Qs ?_ | refine kA ?_ | (refine Kx.frzR 0 rfl ?_ <;> refine kF ?_) | refine kP ?_ | refine k1 ?_ | refine kB ?_ | refine kL ?_ | refine zC ?_ | exact True.intro | fail))
        conv => whnf
        rw [hk, List.nil_append]
        repeat' ((conv => whnf) <;> (first | (refine LK.frzR 0 rfl ?_ <;> refine LK.see 53 rfl (Sb.row 0 rfl) ?_ <;> refine LK.callA ent13 k2 rfl rfl Ql ?_) | refine zM ?_ | refine zW ?_ | intro _ | exact zF | refine Br.tt ?_ | refine Br.ff ?_ | (refine Br.mk (fun h => ?_) (fun h => ?_) <;> (try simp only [sh] at h) <;> try first | (exfalso; omega) | exact absurd trivial h | (simp at h; done)) | refine zA ?_ | refine zN ?_ | refine zO ?_ | refine zP ?_ | refine zB ?_ | refine zR ?_ | refine Rem.t Qw ?_ | refine zL ent13 k1 ?_ | refine zG ent13 (fun h => k1) ?_ | refine zL ent23 k3 ?_ | refine zG ent23 (fun h => k3) ?_ | refine lB ?_ | refine lBA ?_ | refine zK ?_ | refine s1 ?_ | refine sA ?_ | refine zC ?_ | exact True.intro | fail))
        conv => whnf
        refine .out _ (by exact List.nil_sublist _) ⟨congrArg B ?_, rfl⟩
        by_cases ha : a1 = -1
        · obtain ⟨g1, g2⟩ := hsub ha
          rw [withB_of g2, decide_eq_true (p := a2 < 0) (by omega)]
          simp
        · rw [decide_eq_true (p := 0 ≤ a1) (by omega)]
          simp
    · rw [Bool.eq_false_iff.2 hc] at c3
      refine fn_run (T := tab) Tryz.func7 rfl Tryz.ntmps7 rfl Tryz.results7 (fun _ => ?_)
      repeat' ((conv => whnf) <;> (first | refine zM ?_ | refine zW ?_ | intro _ | exact zF | refine Fin.pure ?_ | refine Br.tt ?_ | refine Br.ff ?_ | (refine Br.mk (fun h => ?_) (fun h => ?_) <;> (try simp only [sh] at h) <;> try first | (exfalso; omega) | exact absurd trivial h | (simp at h; done)) | refine zA ?_ | refine zN ?_ | refine zO ?_ | refine zP ?_ | refine zB ?_ | refine zR ?_ | refine Rem.t Qw ?_ | refine zL ent10 c0 ?_ | refine zG ent10 (fun h => c0) ?_ | refine zL ent12 c2 ?_ | refine zG ent12 (fun h => c2) ?_ | refine zL ent21 c3 ?_ | refine zG ent21 (fun h => c3) ?_ | refine lB ?_ | refine lBA ?_ | refine zK ?_ | refine s1 ?_ | refine sA ?_ | refine zC ?_ | exact True.intro | fail))
  · rw [decide_eq_false hw] at c2
    refine fn_run (T := tab) Tryz.func7 rfl Tryz.ntmps7 rfl Tryz.results7 (fun _ => ?_)
    repeat' ((conv => whnf) <;> (first | refine zG ent21 (as2 := [.sl 3 (given.map ltav)]) (r := B true) (fun h => absurd h (by decide)) ?_ | refine zM ?_ | refine zW ?_ | intro _ | exact zF | refine Fin.pure ?_ | refine Br.tt ?_ | refine Br.ff ?_ | (refine Br.mk (fun h => ?_) (fun h => ?_) <;> (try simp only [sh] at h) <;> try first | (exfalso; omega) | exact absurd trivial h | (simp at h; done)) | refine zA ?_ | refine zN ?_ | refine zO ?_ | refine zP ?_ | refine zB ?_ | refine zR ?_ | refine Rem.t Qw ?_ | refine zL ent10 c0 ?_ | refine zG ent10 (fun h => c0) ?_ | refine zL ent12 c2 ?_ | refine zG ent12 (fun h => c2) ?_ | refine lB ?_ | refine lBA ?_ | refine zK ?_ | refine s1 ?_ | refine sA ?_ | refine zC ?_ | exact True.intro | fail))
end Go.Proofs.YtjfnkmlnbaianaaGreat
