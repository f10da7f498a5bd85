/-
  Walks: arguments, the reference's Has.
  Conditions: those of each theorem.
-/
import Derived.Test.YtnekeokgognegaaU8
namespace Go.Proofs.Ytnekeokgognegaa
open Go.E2 Go.Wage
structure ArQ where
  k : Nat
  v : Value
set_option maxRecDepth 4000 in
set_option maxHeartbeats 8000000 in
theorem qArgs_ok (den den' x : Int) (ps qs : List Pc) (hx : inI x) (hp : validB den ps = true) (hq : validB den' qs = true) :
    FnE Try.prog 26 [fav den ps, fav den' qs, I x] fun r E => ∃ v, r = .v v ∧ E = [.row v 3 1 0 false ((argsR (startsR ps qs) (pickR x 1000000000001) (pickR x 1000) (startsR ps qs).length).map I)] := by
  have h1 := valid_parts hp
  have h2 := valid_parts hq
  have c0 := r5Starts_ok den den' ps qs (by omega) (by omega) (fun p h => by obtain ⟨i, hi⟩ := List.getElem?_of_mem h; have := valid_piece hp hi; unfold inI; omega) (fun p h => by obtain ⟨i, hi⟩ := List.getElem?_of_mem h; have := valid_piece hq hi; unfold inI; omega)
  rw [starts_mrg hp (.inr hq)] at c0
  have hS : ∀ s ∈ startsR ps qs, 0 ≤ s ∧ s ≤ 1000000000000 := fun s hs => starts_bd hp (.inr hq) hs
  have hSl : (startsR ps qs).length ≤ 128 := by
    have := starts_len (ps := ps) (qs := qs)
    omega
  generalize startsR ps qs = S at *
  have p1 := pick_ok x 1000000000001 hx (by omega)
  have p2 := pick_ok x 1000 hx (by omega)
  have b1 := pickR_bd x (n := 1000000000001) (by omega)
  have b2 := pickR_bd x (n := 1000) (by omega)
  generalize pickR x 1000000000001 = y at *
  generalize pickR x 1000 = z at *
  have hSm : (S.map I).length = S.length := by simp
  clear h1 h2
  refine fn_run (T := tab) Try.func26 rfl Try.ntmps26 rfl Try.results26 (fun _ => ?_)
  repeat' ((conv => whnf) <;> (first | refine zM ?_ | refine zW ?_ | intro _ | exact zF | refine Br.tt ?_ | refine Br.ff ?_ | (refine Br.mk (fun h => ?_) (fun h => ?_) <;> (try simp only [sh] at h) <;> try first | (exfalso; omega) | exact absurd trivial h | (simp at h; done)) | refine zA ?_ | refine zN ?_ | refine zO ?_ | refine zP ?_ | refine zB ?_ | refine zL ent17 p1 ?_ | refine zG ent17 (fun h => p1) ?_ | refine zL ent33 c0 ?_ | refine zG ent33 (fun h => c0) ?_ | refine lB ?_ | refine lBA ?_ | refine nR ?_ | refine iR ?_ | refine lR ?_ | refine lR0 ?_ | refine lRA ?_ | refine zK ?_ | refine s1 ?_ | refine sA ?_ | refine LK.bsl rfl rfl rfl rfl ?_ | (refine LK.frzR 0 rfl ?_ <;> refine pF ?_) | refine pA ?_ | refine sR ?_ | refine zC ?_ | fail))
  rename_i v0
  (conv => whnf); refine CK.loopK [7, 9, 16, 17, 18, 19, 20, 21, 22, 23, 24, 25, 26, 27, 28, 29, 30, 31, 32, 33, 34, 35, 36, 37, 38, 39, 40, 41, 42, 43, 44, 45, 46, 47, 48] (σ := ArQ) (fun q => q.k ≤ S.length) (fun q => [(9, I q.k), (7, .v q.v)]) (fun q => [.row q.v 3 1 0 false ((argsR S y z q.k).map I)]) _ (fun q => S.length - q.k) ⟨0, v0⟩ (by simp) Qy (by exact List.Sublist.refl _) ?_
  conv => whnf
  rintro ⟨k, v⟩ i1
  simp only at i1
  dsimp only
  by_cases hk : k < S.length
  · have hs : S[k]? = some (S.getD k default) := gAtD hk
    have hsb := hS _ (List.mem_of_getElem? hs)
    have hal := argsR_len S y z k
    have hal' : ((argsR S y z k).map I).length ≤ 1000 := by rw [List.length_map]; omega
    have hsu := argsR_succ (y := y) (z := z) hs
    repeat' ((conv => whnf) <;> (first | refine CK.anyK (id := 6) [0, 1, 2, 3, 4, 5, 6, 7, 8, 9, 10, 11, 12, 13, 14, 15, 16, 17, 18, 19, 20, 21, 22, 23, 24, 25] [26, 27] _ (List.Sublist.cons _ (List.Sublist.refl _)) Qk ?_ | refine zM ?_ | refine zW ?_ | intro _ | exact zF | refine Br.tt ?_ | refine Br.ff ?_ | (refine Br.mk (fun h => ?_) (fun h => ?_) <;> (try simp only [sh] at h) <;> try first | (exfalso; omega) | exact absurd trivial h | (simp at h; done)) | refine zA ?_ | refine zN ?_ | refine zO ?_ | refine zP ?_ | refine zB ?_ | refine zL ent17 p2 ?_ | refine zG ent17 (fun h => p2) ?_ | refine lB ?_ | refine lBA ?_ | refine zK ?_ | refine s1 ?_ | refine sA ?_ | refine pS ?_ | refine LK.gr (Gr.bslV rfl rfl rfl rfl) ?_ | refine Ask.of (Gr.bslV rfl rfl rfl rfl) ?_ | refine Kx.nil ?_ | refine Kx.stp rfl rfl Qs ?_ | refine kA ?_ | refine kS ?_ | (refine Kx.frzR 0 rfl ?_ <;> refine kF ?_) | refine kP ?_ | refine k1 ?_ | refine kB ?_ | refine kL ?_ | refine zC ?_ | refine zD ?_ | fail))
    · rename_i A q cp
      (conv => whnf); (refine Nxt.of (⟨k + 1, Value.slice A q cp⟩) [7, 9, 16, 17, 18, 19, 20, 21, 22, 23, 24, 25, 26, 27, 28, 29, 30, 31, 32, 33, 34, 35, 36, 37, 38, 39, 40, 41, 42, 43, 44, 45, 46, 47, 48] Qr Qr Qr ?_ ?_ Qy ?_ <;> (try dsimp only) <;> (try omega))
      rw [hsu, List.map_append]
      exact Qs
  · have hke : k = S.length := by omega
    subst hke
    repeat' ((conv => whnf) <;> (first | refine zM ?_ | refine zW ?_ | intro _ | exact zF | refine Br.tt ?_ | refine Br.ff ?_ | (refine Br.mk (fun h => ?_) (fun h => ?_) <;> (try simp only [sh] at h) <;> try first | (exfalso; omega) | exact absurd trivial h | (simp at h; done)) | refine zA ?_ | refine zN ?_ | refine zO ?_ | refine zP ?_ | refine zB ?_ | refine lB ?_ | refine lBA ?_ | refine zK ?_ | refine s1 ?_ | refine sA ?_ | refine zC ?_ | fail))
    conv => whnf
    exact .out _ (by exact List.Sublist.cons_cons _ (List.nil_sublist _)) ⟨_, rfl, rfl⟩
end Go.Proofs.Ytnekeokgognegaa
