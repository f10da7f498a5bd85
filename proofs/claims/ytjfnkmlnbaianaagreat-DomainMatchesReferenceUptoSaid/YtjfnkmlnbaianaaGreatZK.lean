/-
  Walks: the keys of a map, sorted.
  Conditions: those of each theorem.
-/
import Derived.Test.YtjfnkmlnbaianaaGreatZ1
import Derived.Test.YtjfnkmlnbaianaaGreatZM
import Derived.Test.YtjfnkmlnbaianaaGreatE5E
import Derived.Test.YtjfnkmlnbaianaaGreatSh2
namespace Go.Proofs.YtjfnkmlnbaianaaGreat
open Go.E2 Go.Wage
abbrev eI (k : Int) : Value := .int .i64 k
theorem mapIK : MapK Tryz.prog 179 3 3 eI IsI64 := ⟨Tryz.underlying179, key_int Tryz.underlying3, fun x => ⟨x, rfl⟩, fun x y h => by injection h⟩
theorem mKeys_ok (g : Nat) : FnA Tryz.prog 107 [.v (.map (some g))] (.fn (.func 125) [.fp [.v (.map (some g))] 0]) := by
 refine fn_run (T := tab) Tryz.func107 rfl Tryz.ntmps107 rfl Tryz.results107 (fun _ => ?_)
 repeat' ((conv => whnf) <;> (first | refine zM ?_ | refine zW ?_ | intro _ | exact zF | refine Br.tt ?_ | refine Br.ff ?_ | (refine Br.mk (fun h => ?_) (fun h => ?_) <;> (try simp only [sh] at h) <;> try first | (exfalso; omega) | exact absurd trivial h | (simp at h; done)) | refine zA ?_ | refine zN ?_ | refine zO ?_ | refine zP ?_ | refine zB ?_ | refine lB ?_ | refine lBA ?_ | refine zK ?_ | refine s1 ?_ | refine sA ?_ | refine zC ?_ | fail))
 conv => whnf
 refine Fin.frzB 0 rfl ?_
 refine Fin.see (Sb.fn (.cons (Sb.ptr 0 rfl) .nil)) ?_
 exact .out [] (List.nil_sublist _) ⟨rfl, rfl⟩
theorem mKeys1_iter {β : Type} (ev : β → AV) (M : List (Int × β)) (g : Nat) : IterS Tryz.prog 125 [.fp [.v (.map (some g))] 0] (fun ys x => ys.length < M.length ∧ ∃ k, x = [I k]) (fun ys => ∃ ks : List Int, ks.Perm (M.map (·.1)) ∧ ys = ks.map fun k => [I k]) [.mp g (encM eI ev M)] [.mp g (encM eI ev M)] := by
 refine ⟨fun c lp Iv S hy L hI => ?_⟩
 refine fnL_runY (T := tab) Tryz.func125 rfl Tryz.ntmps125 rfl Tryz.results125 (fun c1 hw0 hle0 => ?_)
 repeat' ((conv => whnf) <;> (first | (refine LK.eff (Eff.range (l := M) mapIK 0 rfl rfl) ?_ <;> rintro _ _ ⟨q, rfl, rfl⟩) | refine zM ?_ | refine zW ?_ | intro _ | exact zF | refine Fin.pure ?_ | refine Br.tt ?_ | refine Br.ff ?_ | (refine Br.mk (fun h => ?_) (fun h => ?_) <;> (try simp only [sh] at h) <;> try first | (exfalso; omega) | exact absurd trivial h | (simp at h; done)) | refine zA ?_ | refine zN ?_ | refine zO ?_ | refine zP ?_ | refine zB ?_ | refine lB ?_ | refine lBA ?_ | refine zK ?_ | refine s1 ?_ | refine sA ?_ | refine zC ?_ | fail))
 (conv => whnf); refine CK.loopY [3, 6, 7, 8, 9, 10, 11, 12, 13] (σ := List Nat × List Ent) (fun s => s.1.Nodup ∧ (∀ k ∈ s.1, k < M.length) ∧ Iv ((keysAt M s.1).map fun k => [I k]) s.2) (fun _ => []) (fun ⟨seen, L1⟩ => .obj q (.mapIter (some g) M.length seen.toArray M.length) :: .mp g (encM eI ev M) :: L1) (fun s => M.length - s.1.length) ([], L) ⟨List.nodup_nil, by simp, hI⟩ Qy (List.Sublist.refl _) ?_
 conv => whnf
 rintro ⟨seen, L1⟩ ⟨i1, i2, i3⟩
 simp only at i1 i2 i3
 have hsl := nodup_len i1 i2
 repeat' ((conv => whnf) <;> (first | refine LK.gr (Gr.entry (j := 0) (l := M) (seen := seen) 1 rfl rfl rfl hj) ?_ | (refine LK.eff (Eff.next (j := 0) (l := M) (seen := seen) 1 rfl rfl (by simp) rfl) ?_ <;> rintro _ _ (⟨hall, rfl, rfl⟩ | ⟨j, p, hj, hjn, rfl, rfl⟩)) | refine zM ?_ | refine zW ?_ | intro _ | exact zF | refine Br.tt ?_ | refine Br.ff ?_ | (refine Br.mk (fun h => ?_) (fun h => ?_) <;> (try simp only [sh] at h) <;> try first | (exfalso; omega) | exact absurd trivial h | (simp at h; done)) | refine zA ?_ | refine zN ?_ | refine zO ?_ | refine zP ?_ | refine zB ?_ | refine lB ?_ | refine lBA ?_ | refine zK ?_ | refine s1 ?_ | refine sA ?_ | refine zC ?_ | fail))
 ·conv => whnf
  exact .out _ (List.Sublist.refl _) ⟨rfl, [_], L1, rfl, .inl ⟨_, ⟨_, keysAt_perm i1 i2 hall, rfl⟩, i3⟩⟩
 ·have hjl := (List.getElem?_eq_some_iff.1 hj).1
  have hn2 : (seen ++ [j]).Nodup := by
   rw [List.nodup_append]
   exact ⟨i1, by simp, fun a ha b hb e => by simp at hb; subst hb; subst e; exact hjn ha⟩
  have hl2 : ∀ k ∈ seen ++ [j], k < M.length := fun k hk => by
   rcases List.mem_append.1 hk with h | h
   ·exact i2 k h
   ·simp at h; omega
  have hs2 := nodup_len hn2 hl2
  rw [List.length_append, List.length_singleton] at hs2
  repeat' ((conv => whnf) <;> (first | (refine YK.yield (T := tab) Qk rfl rfl (SbL.refl _) (hy _ [I p.1] [_, _] L1 c1 hw0 hle0 ⟨by rw [List.length_map, keysAt, List.length_map]; omega, _, rfl⟩ i3) ?_ <;> rintro q' _ ⟨L2, rfl, hq⟩) | refine CK.regY 2 Qk ?_ | refine zM ?_ | refine zW ?_ | intro _ | exact zF | refine Br.tt ?_ | refine Br.ff ?_ | (refine Br.mk (fun h => ?_) (fun h => ?_) <;> (try simp only [sh] at h) <;> try first | (exfalso; omega) | exact absurd trivial h | (simp at h; done)) | refine zA ?_ | refine zN ?_ | refine zO ?_ | refine zP ?_ | refine zB ?_ | refine lB ?_ | refine lBA ?_ | refine zK ?_ | refine s1 ?_ | refine sA ?_ | refine zC ?_ | fail))
  ·subst h
   conv => whnf
   exact .out _ (List.Sublist.refl _) ⟨rfl, [_], L2, rfl, .inr hq⟩
  ·subst h
   have hq2 : Iv ((keysAt M (seen ++ [j])).map fun k => [I k]) L2 := by rw [keysAt_snoc hj, List.map_append]; exact hq
   (conv => whnf); (refine Nxt.of ((seen ++ [j], L2)) [3, 6, 7, 8, 9, 10, 11, 12, 13] Qr Qr Qr ?_ ?_ Qy Qs <;> (try dsimp only) <;> (try omega))
   ·exact ⟨hn2, hl2, hq2⟩
   ·simp only [List.length_append, List.length_singleton]; omega
theorem app_sorted {β : Type} (ev : β → AV) (M : List (Int × β)) (g : Nat) (hM : M.length ≤ 1000000) {c : Ctx} {L : List Ent} : FnL Tryz.prog c 134 [.v (.slice none 0 0), .fn (.func 125) [.fp [.v (.map (some g))] 0]] (.mp g (encM eI ev M) :: L) fun r L' => ∃ (v : Value) (ks : List Int), ks.Perm (M.map (·.1)) ∧ r = .v v ∧ L' = .mp g (encM eI ev M) :: .row v 3 1 0 false (ks.map I) :: L := by
 refine fnLM_run (T := tab) Tryz.func134 rfl Tryz.ntmps134 rfl Tryz.results134 (fun c1 hw0 hle0 => ?_)
 repeat' ((conv => whnf) <;> (first | refine zM ?_ | refine zW ?_ | intro _ | exact zF | refine Fin.pure ?_ | refine Br.tt ?_ | refine Br.ff ?_ | (refine Br.mk (fun h => ?_) (fun h => ?_) <;> (try simp only [sh] at h) <;> try first | (exfalso; omega) | exact absurd trivial h | (simp at h; done)) | refine zA ?_ | refine zN ?_ | refine zO ?_ | refine zP ?_ | refine zB ?_ | refine lB ?_ | refine lBA ?_ | refine zK ?_ | refine s1 ?_ | refine sA ?_ | refine zC ?_ | fail))
 rename_i b
 conv => whnf
 refine CK.nilrow 3 1 ?_
 refine CK.perm (L' := .mp g (encM eI ev M) :: .blk b 55 false [.v (.slice none 0 0)] :: .row (.slice none 0 0) 3 1 0 false [] :: L) ?_ ?_
 ·exact (List.perm_append_comm (l₁ := [_, _, _]) (l₂ := L)).trans (((List.Perm.swap _ _ _).trans ((List.Perm.cons _ (List.Perm.swap _ _ _)).trans (List.Perm.swap _ _ _))).append_left L |>.trans List.perm_append_comm)
 refine CK.rangeS (T := tab) (p := [7]) ent125 (fun ys x h => by obtain ⟨_, k, rfl⟩ := h; rfl) rfl (Sb.refl _) (mKeys1_iter ev M g) (σ := Value × List Int) (fun ys t => ys = t.2.map (fun k => [I k])) (fun ⟨v, ks⟩ => [.blk b 55 false [.v v], .row v 3 1 0 false (ks.map I)]) L (fun _ _ => False) (.slice none 0 0, []) rfl (List.Sublist.refl _) ?_ ?_ (fun _ _ _ h => h.elim)
 ·rintro ys x ⟨v, ks⟩ ⟨hlen, k, rfl⟩ hys c' lp T1 T2
  simp only at hys
  subst hys
  rw [List.length_map] at hlen
  have hlk : (ks.map I).length = ks.length := by simp
  dsimp only
  repeat' ((conv => whnf) <;> (first | refine Bgn.of (_ :: _ :: L) (List.Sublist.refl _) ?_ | refine zM ?_ | refine zW ?_ | intro _ | exact zF | refine Fin.pure ?_ | refine Br.tt ?_ | refine Br.ff ?_ | (refine Br.mk (fun h => ?_) (fun h => ?_) <;> (try simp only [sh] at h) <;> try first | (exfalso; omega) | exact absurd trivial h | (simp at h; done)) | refine zA ?_ | refine zN ?_ | refine zO ?_ | refine zP ?_ | refine zB ?_ | refine lB ?_ | refine lBA ?_ | refine zK ?_ | refine s1 ?_ | refine sA ?_ | refine pS ?_ | refine LK.gr (Gr.bslV rfl rfl rfl rfl) ?_ | refine Ask.of (Gr.bslV rfl rfl rfl rfl) ?_ | refine zC ?_ | refine zD ?_ | fail))
  rename_i A B C
  conv => whnf
  refine Rnd.of (.slice A B C, ks ++ [k]) (List.map_append (f := fun k => [I k]) (l₁ := ks) (l₂ := [k])).symm ?_
  dsimp only
  rw [List.map_append]
  exact Qs
 ·rintro ys ⟨v, ks⟩ D ⟨ks', hp, rfl⟩ ht
  simp only at ht
  have : ks' = ks := by
   have := congrArg (List.map fun x : List AV => match x with | [.v (.int _ a)] => a | _ => 0) ht
   simpa [I, Function.comp_def] using this
  subst this
  dsimp only
  repeat' ((conv => whnf) <;> (first | refine Unm.at 0 rfl ?_ | refine zM ?_ | refine zW ?_ | intro _ | exact zF | refine Br.tt ?_ | refine Br.ff ?_ | (refine Br.mk (fun h => ?_) (fun h => ?_) <;> (try simp only [sh] at h) <;> try first | (exfalso; omega) | exact absurd trivial h | (simp at h; done)) | refine zA ?_ | refine zN ?_ | refine zO ?_ | refine zP ?_ | refine zB ?_ | refine lB ?_ | refine lBA ?_ | refine zK ?_ | refine s1 ?_ | refine sA ?_ | refine zC ?_ | fail))
  conv => whnf
  exact .out _ (.cons_cons _ (.cons _ (.refl _))) ⟨v, ks', hp, rfl, rfl⟩
end Go.Proofs.YtjfnkmlnbaianaaGreat
namespace Go.Proofs.YtjfnkmlnbaianaaGreat
open Go.E2 Go.Wage Go.Sort Go.Shelf
theorem sortInt_ok {c : Ctx} {L : List Ent} {v : Value} {t : TypeId} {zs : List Int} (i : Nat) (hi : L[i]? = some (.row v t 1 0 false (zs.map I))) (hlen : zs.length ≤ 1000000000) :
  FnL Tryz.prog c 124 [.v v] L fun r L' => r = .tup [] ∧ L' = L.set i (.row v t 1 0 false ((zs.mergeSort fun x y => decide (x ≤ y)).map I)) := by
 by_cases hne : zs = []
 ·subst hne
  refine (sortI_none (ρ := Tryz.sortI_ren) Tryz.sortI i hi).mono ?_
  rintro a L' ⟨rfl, rfl⟩
  refine ⟨rfl, ?_⟩
  apply List.ext_getElem?
  intro j
  rw [List.getElem?_set]
  split
  ·rename_i e'
   subst e'
   rw [if_pos (List.getElem?_eq_some_iff.1 hi).1, hi]
   simp
  ·rfl
 ·exact sortI_of (ρ := Tryz.sortI_ren) Tryz.sortI i hi hne (by omega)
theorem collect_ok {β : Type} (ev : β → AV) (M : List (Int × β)) (g : Nat) (hM : M.length ≤ 1000000) {c : Ctx} {L : List Ent} : FnL Tryz.prog c 123 [.fn (.func 125) [.fp [.v (.map (some g))] 0]] (.mp g (encM eI ev M) :: L) fun r L' => ∃ (v : Value) (ks : List Int), ks.Perm (M.map (·.1)) ∧ r = .v v ∧ L' = .mp g (encM eI ev M) :: .row v 3 1 0 false (ks.map I) :: L := by
 refine fnL_run (T := tab) Tryz.func123 rfl Tryz.ntmps123 rfl Tryz.results123 (fun _ hw0 => ?_)
 repeat' ((conv => whnf) <;> (first | refine zM ?_ | refine zW ?_ | intro _ | exact zF | refine Br.tt ?_ | refine Br.ff ?_ | (refine Br.mk (fun h => ?_) (fun h => ?_) <;> (try simp only [sh] at h) <;> try first | (exfalso; omega) | exact absurd trivial h | (simp at h; done)) | refine zA ?_ | refine zN ?_ | refine zO ?_ | refine zP ?_ | refine zB ?_ | (refine LK.callL ent134 (app_sorted ev M g hM) rfl rfl Ql (fun _ _ hcall => ?_) <;> obtain ⟨v, ks, hp, rfl, rfl⟩ := hcall) | refine lB ?_ | refine lBA ?_ | refine zK ?_ | refine s1 ?_ | refine sA ?_ | refine zC ?_ | fail))
 conv => whnf
 exact .out _ (List.Sublist.refl _) ⟨v, ks, hp, rfl, rfl⟩
theorem sorted_ok {β : Type} (ev : β → AV) (M : List (Int × β)) (g : Nat) (hM : M.length ≤ 1000000) {c : Ctx} {L : List Ent} : FnL Tryz.prog c 106 [.fn (.func 125) [.fp [.v (.map (some g))] 0]] (.mp g (encM eI ev M) :: L) fun r L' => L' = .mp g (encM eI ev M) :: L ∧ ∃ ks : List Int, r = .sl 1 (ks.map I) ∧ ks.Perm (M.map (·.1)) ∧ ks.Pairwise (· ≤ ·) := by
 refine fnL_run (T := tab) Tryz.func106 rfl Tryz.ntmps106 rfl Tryz.results106 (fun _ hw0 => ?_)
 repeat' ((conv => whnf) <;> (first | refine zM ?_ | refine zW ?_ | intro _ | exact zF | refine Br.tt ?_ | refine Br.ff ?_ | (refine Br.mk (fun h => ?_) (fun h => ?_) <;> (try simp only [sh] at h) <;> try first | (exfalso; omega) | exact absurd trivial h | (simp at h; done)) | refine zA ?_ | refine zN ?_ | refine zO ?_ | refine zP ?_ | refine zB ?_ | (refine LK.callL ent123 (collect_ok ev M g hM) rfl rfl Ql (fun _ _ hcall => ?_) <;> obtain ⟨v, ks, hp, rfl, rfl⟩ := hcall) | refine lB ?_ | refine lBA ?_ | refine zK ?_ | refine s1 ?_ | refine sA ?_ | refine zC ?_ | fail))
 have hkl : ks.length ≤ 1000000000 := by rw [hp.length_eq, List.length_map]; omega
 repeat' ((conv => whnf) <;> (first | refine zM ?_ | refine zW ?_ | intro _ | exact zF | refine Br.tt ?_ | refine Br.ff ?_ | (refine Br.mk (fun h => ?_) (fun h => ?_) <;> (try simp only [sh] at h) <;> try first | (exfalso; omega) | exact absurd trivial h | (simp at h; done)) | refine zA ?_ | refine zN ?_ | refine zO ?_ | refine zP ?_ | refine zB ?_ | (refine LK.callL ent124 (sortInt_ok (zs := ks) 1 rfl hkl) rfl rfl Ql (fun _ _ hcall => ?_) <;> obtain ⟨rfl, rfl⟩ := hcall) | refine lB ?_ | refine lBA ?_ | refine zK ?_ | refine s1 ?_ | refine sA ?_ | refine zC ?_ | fail))
 conv => whnf
 refine Fin.frzR 1 rfl ?_
 refine Fin.see (Sb.row 1 rfl) ?_
 refine .out _ (.cons_cons _ (.cons _ (.refl _))) ⟨rfl, _, rfl, (List.mergeSort_perm _ _).trans hp, ?_⟩
 have := List.pairwise_mergeSort (le := fun x y : Int => decide (x ≤ y)) (fun a b c => by simp; omega) (fun a b => by simp; omega) ks
 exact this.imp fun h => by simpa using h
end Go.Proofs.YtjfnkmlnbaianaaGreat
