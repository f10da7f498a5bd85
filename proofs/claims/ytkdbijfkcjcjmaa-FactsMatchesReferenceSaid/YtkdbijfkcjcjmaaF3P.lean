/-
  Walks: facts.People.
  Conditions: those of each theorem.
-/
import Derived.Test.YtkdbijfkcjcjmaaF2
import Derived.Test.YtkdbijfkcjcjmaaF12D
import Derived.Test.YtkdbijfkcjcjmaaE3W
import Derived.Test.YtkdbijfkcjcjmaaSh2
namespace Go.Proofs.Ytkdbijfkcjcjmaa
open Go.E2 Go.Wage Go.Sort Go.Shelf
abbrev eS (s : ByteArray) : Value := .string s
abbrev sav (s : ByteArray) : AV := .v (.string s)
theorem mapPK : MapK Try.prog 62 9 4 eS IsStr := ⟨Try.underlying62, key_str Try.underlying9, fun x => ⟨x, rfl⟩, fun x y h => by injection h⟩
theorem kset_ups (x : ByteArray) : ∀ l : List (ByteArray × Bool), ups x true l = kset l x
  | [] => rfl
  | p :: l => by rw [ups, kset, kset_ups x l]
theorem sortStr_ok {c : Ctx} {L : List Ent} {v : Value} {t : TypeId} {ss : List ByteArray} (i : Nat) (hi : L[i]? = some (.row v t 1 0 false (ss.map sav))) (hlen : ss.length ≤ 1000000000) :
    FnL Try.prog c 39 [.v v] L fun r L' => r = .tup [] ∧ L' = L.set i (.row v t 1 0 false ((((ss.map bsA).mergeSort fun x y => decide (x ≤ y)).map strOf).map sav)) := by
  have e : ss.map sav = (ss.map bsA).map (avE encStr) := by rw [List.map_map]; rfl
  have e2 : ∀ l : List (List UInt8), (l.map strOf).map sav = l.map (avE encStr) := fun l => by rw [List.map_map]; rfl
  by_cases hne : ss = []
  · subst hne
    refine (sortS_none (ρ := Try.sortS_ren) Try.sortS i hi).mono ?_
    rintro a L' ⟨rfl, rfl⟩
    refine ⟨rfl, ?_⟩
    apply List.ext_getElem?
    intro j
    rw [List.getElem?_set]
    split
    · rename_i e'
      subst e'
      rw [if_pos (List.getElem?_eq_some_iff.1 hi).1, hi]
      simp
    · rfl
  · rw [e] at hi
    rw [e2]
    exact sortS_of (ρ := Try.sortS_ren) Try.sortS (ss := ss.map bsA) i hi (by simpa using hne) (by rw [List.length_map]; omega)
set_option maxHeartbeats 4000000 in
theorem fPeople_ok (fs : List Fa) (hsz : ∀ f, f ∈ fs → f.person.size ≤ 9223372036854775807 ∧ f.name.size ≤ 9223372036854775807) (hlen : fs.length ≤ 1000) :
    FnA Try.prog 23 [stav fs] (.sl 1 ((if validF fs then pplR fs else []).map sav)) := by
  have c1 := valid_ok fs hsz (by omega)
  have hl : (fs.map fcav).length = fs.length := by simp
  have ha : (0 : Int) ≤ fs.length := by omega
  refine fn_run (T := tab) Try.func23 rfl Try.ntmps23 rfl Try.results23 (fun _ => ?_)
  repeat' ((conv => whnf) <;> (first | (refine LK.eff Eff.mkmap ?_ <;> rintro _ _ ⟨g, rfl, rfl⟩) | refine Must.mk (fun h => h) ?_ | refine Must.mk (fun _ => rfl) ?_ | refine Must.mk Qw ?_ | intro _ | exact Fin.pure rfl | refine Br.tt ?_ | refine Br.ff ?_ | (refine Br.mk (fun h => ?_) (fun h => ?_) <;> (try simp only [sh] at h) <;> (try first | (exfalso; omega) | exact absurd trivial h | (exfalso; simp at h; done))) | refine Ix.at ‹_› Qw ?_ | refine Ix.mapN Qw ?_ | refine Ix.mapN1 Qw ?_ | refine Ix.map Qw ?_ | refine Ix.at Qi Qw ?_ | refine Quo.nn Qw ?_ | refine Quo.t Qw ?_ | refine Rem.nn Qw ?_ | refine Rem.t Qw ?_ | refine LK.callA ent16 (c1) rfl rfl (SbL.refl _) ?_ | refine Ask.callA ent16 (fun h => c1) rfl rfl (SbL.refl _) ?_ | refine LK.callA ent16 (c1) rfl rfl Ql ?_ | refine Ask.callA ent16 (fun h => c1) rfl rfl Ql ?_ | refine Ask.ldB (T := tab) 0 rfl rfl rfl rfl ?_ | refine Ask.ldB (T := tab) 1 rfl rfl rfl rfl ?_ | refine Ask.ldB (T := tab) 2 rfl rfl rfl rfl ?_ | refine Ask.ldBA (T := tab) 0 rfl rfl rfl rfl ?_ | refine Ask.ldBA (T := tab) 1 rfl rfl rfl rfl ?_ | refine Ask.ldBA (T := tab) 2 rfl rfl rfl rfl ?_ | refine AskR.cellA (T := tab) 0 rfl rfl rfl rfl ?_ | refine AskR.cellA (T := tab) 1 rfl rfl rfl rfl ?_ | refine AskR.cellA (T := tab) 2 rfl rfl rfl rfl ?_ | refine AskR.cell1 (T := tab) 0 rfl rfl rfl rfl ?_ | refine AskR.cell1 (T := tab) 1 rfl rfl rfl rfl ?_ | refine AskR.cell1 (T := tab) 2 rfl rfl rfl rfl ?_ | refine LK.askW rfl ?_ | refine LK.st1 0 rfl rfl rfl rfl rfl rfl rfl ?_ | refine LK.st1 1 rfl rfl rfl rfl rfl rfl rfl ?_ | refine LK.st1 2 rfl rfl rfl rfl rfl rfl rfl ?_ | refine LK.stA 0 rfl rfl rfl rfl rfl rfl rfl rfl ?_ | refine LK.stA 1 rfl rfl rfl rfl rfl rfl rfl rfl ?_ | refine LK.stA 2 rfl rfl rfl rfl rfl rfl rfl rfl ?_ | refine CK.any false Qk ?_ | fail))
  all_goals (conv => whnf)
  · rw [if_neg (by rw [h]; simp)]
    exact Fin.seeP Qz
  rw [if_pos h]
  (conv => whnf); refine CK.loopK [5, 15, 16, 17, 18, 19, 20, 21, 22] (σ := Nat) (fun k => k ≤ fs.length) (fun k => [(15, I k)]) (fun k => [.mp g (encM eS B (keysR (fs.take k)))]) _ (fun k => fs.length - k) 0 (Nat.zero_le _) Qy (List.Sublist.refl _) ?_
  conv => whnf
  rintro k hk
  by_cases hlt : k < fs.length
  · repeat' ((conv => whnf) <;> (first | (refine Nxt.of (k + 1) [5, 15, 16, 17, 18, 19, 20, 21, 22] Qr Qr Qr ?_ ?_ Qy ?_ <;> (try dsimp only) <;> (try omega)) | (refine LK.eff (Eff.mset (l := keysR (fs.take k)) mapPK 1 rfl rfl rfl (x := (fs.getD k default).person) (v := true) rfl rfl) ?_ <;> rintro _ _ ⟨rfl, rfl⟩) | refine Must.mk (fun h => h) ?_ | refine Must.mk (fun _ => rfl) ?_ | refine Must.mk Qw ?_ | intro _ | exact Fin.pure rfl | refine Fin.pure ?_ | refine Br.tt ?_ | refine Br.ff ?_ | (refine Br.mk (fun h => ?_) (fun h => ?_) <;> (try simp only [sh] at h) <;> (try first | (exfalso; omega) | exact absurd trivial h | (exfalso; simp at h; done))) | refine Ix.at ‹_› Qw ?_ | refine Ix.mapN Qw ?_ | refine Ix.mapN1 Qw ?_ | refine Ix.map Qw ?_ | refine Ix.at Qi Qw ?_ | refine Quo.nn Qw ?_ | refine Quo.t Qw ?_ | refine Rem.nn Qw ?_ | refine Rem.t Qw ?_ | refine Ask.ldB (T := tab) 0 rfl rfl rfl rfl ?_ | refine Ask.ldB (T := tab) 1 rfl rfl rfl rfl ?_ | refine Ask.ldB (T := tab) 2 rfl rfl rfl rfl ?_ | refine Ask.ldBA (T := tab) 0 rfl rfl rfl rfl ?_ | refine Ask.ldBA (T := tab) 1 rfl rfl rfl rfl ?_ | refine Ask.ldBA (T := tab) 2 rfl rfl rfl rfl ?_ | refine AskR.cellA (T := tab) 0 rfl rfl rfl rfl ?_ | refine AskR.cellA (T := tab) 1 rfl rfl rfl rfl ?_ | refine AskR.cellA (T := tab) 2 rfl rfl rfl rfl ?_ | refine AskR.cell1 (T := tab) 0 rfl rfl rfl rfl ?_ | refine AskR.cell1 (T := tab) 1 rfl rfl rfl rfl ?_ | refine AskR.cell1 (T := tab) 2 rfl rfl rfl rfl ?_ | refine LK.askW rfl ?_ | refine LK.st1 0 rfl rfl rfl rfl rfl rfl rfl ?_ | refine LK.st1 1 rfl rfl rfl rfl rfl rfl rfl ?_ | refine LK.st1 2 rfl rfl rfl rfl rfl rfl rfl ?_ | refine LK.stA 0 rfl rfl rfl rfl rfl rfl rfl rfl ?_ | refine LK.stA 1 rfl rfl rfl rfl rfl rfl rfl rfl ?_ | refine LK.stA 2 rfl rfl rfl rfl rfl rfl rfl rfl ?_ | refine CK.any false Qk ?_ | fail))
    rw [keys_succ hlt, ← kset_ups]
    exact Qs
  · have e : fs.take k = fs := List.take_of_length_le (by omega)
    have hk1 := (keys_spec fs).2.2
    have hps := fun s : List Nat => pick_spec (fs := fs) (seen := s)
    have hsort := fun s : List Nat => ppl_sort (fs := fs) (l := pickK (keysR fs) s)
    repeat' ((conv => whnf) <;> (first | (refine LK.eff (Eff.range (l := keysR (fs.take k)) mapPK 0 rfl rfl) ?_ <;> rintro _ _ ⟨q, rfl, rfl⟩) | refine Must.mk (fun h => h) ?_ | refine Must.mk (fun _ => rfl) ?_ | refine Must.mk Qw ?_ | intro _ | exact Fin.pure rfl | refine Fin.pure ?_ | refine Br.tt ?_ | refine Br.ff ?_ | (refine Br.mk (fun h => ?_) (fun h => ?_) <;> (try simp only [sh] at h) <;> (try first | (exfalso; omega) | exact absurd trivial h | (exfalso; simp at h; done))) | refine Ix.at ‹_› Qw ?_ | refine Ix.mapN Qw ?_ | refine Ix.mapN1 Qw ?_ | refine Ix.map Qw ?_ | refine Ix.at Qi Qw ?_ | refine Quo.nn Qw ?_ | refine Quo.t Qw ?_ | refine Rem.nn Qw ?_ | refine Rem.t Qw ?_ | refine Ask.ldB (T := tab) 0 rfl rfl rfl rfl ?_ | refine Ask.ldB (T := tab) 1 rfl rfl rfl rfl ?_ | refine Ask.ldB (T := tab) 2 rfl rfl rfl rfl ?_ | refine Ask.ldBA (T := tab) 0 rfl rfl rfl rfl ?_ | refine Ask.ldBA (T := tab) 1 rfl rfl rfl rfl ?_ | refine Ask.ldBA (T := tab) 2 rfl rfl rfl rfl ?_ | refine AskR.cellA (T := tab) 0 rfl rfl rfl rfl ?_ | refine AskR.cellA (T := tab) 1 rfl rfl rfl rfl ?_ | refine AskR.cellA (T := tab) 2 rfl rfl rfl rfl ?_ | refine AskR.cell1 (T := tab) 0 rfl rfl rfl rfl ?_ | refine AskR.cell1 (T := tab) 1 rfl rfl rfl rfl ?_ | refine AskR.cell1 (T := tab) 2 rfl rfl rfl rfl ?_ | refine LK.askW rfl ?_ | refine LK.st1 0 rfl rfl rfl rfl rfl rfl rfl ?_ | refine LK.st1 1 rfl rfl rfl rfl rfl rfl rfl ?_ | refine LK.st1 2 rfl rfl rfl rfl rfl rfl rfl ?_ | refine LK.stA 0 rfl rfl rfl rfl rfl rfl rfl rfl ?_ | refine LK.stA 1 rfl rfl rfl rfl rfl rfl rfl rfl ?_ | refine LK.stA 2 rfl rfl rfl rfl rfl rfl rfl rfl ?_ | refine CK.any false Qk ?_ | fail))
    conv => whnf
    refine CK.nilrow 9 1 ?_
    rw [e]
    generalize keysR fs = M at *
    (conv => whnf); refine CK.loopK [6, 7, 25, 26, 27, 28, 29, 30, 31, 32] (σ := List Nat × Value) (fun s => s.1.Nodup ∧ ∀ k ∈ s.1, k < M.length) (fun ⟨_, v⟩ => [(6, .v v)]) (fun ⟨seen, v⟩ => [.row v 9 1 0 false ((pickK M seen).map sav), .obj q (.mapIter (some g) M.length seen.toArray M.length)]) _ (fun s => M.length - s.1.length) ([], .slice none 0 0) ⟨List.nodup_nil, by simp⟩ Qy (List.Sublist.refl _) ?_
    conv => whnf
    rintro ⟨seen, v⟩ ⟨i1, i2⟩
    simp only at i1 i2
    have hsl := nodup_lt i1 i2
    have hpl : ((pickK M seen).map sav).length = seen.length := by simp [pickK]
    repeat' ((conv => whnf) <;> (first | refine LK.gr (Gr.entry (j := 1) (l := M) (seen := seen) 2 rfl rfl rfl hj) ?_ | (refine LK.eff (Eff.next (j := 1) (l := M) (seen := seen) 2 rfl rfl (by simp) rfl) ?_ <;> rintro _ _ (⟨hall, rfl, rfl⟩ | ⟨j, p, hj, hjn, rfl, rfl⟩)) | refine Must.mk (fun h => h) ?_ | refine Must.mk (fun _ => rfl) ?_ | refine Must.mk Qw ?_ | intro _ | exact Fin.pure rfl | refine Br.tt ?_ | refine Br.ff ?_ | (refine Br.mk (fun h => ?_) (fun h => ?_) <;> (try simp only [sh] at h) <;> (try first | (exfalso; omega) | exact absurd trivial h | (exfalso; simp at h; done))) | refine Ix.at ‹_› Qw ?_ | refine Ix.mapN Qw ?_ | refine Ix.mapN1 Qw ?_ | refine Ix.map Qw ?_ | refine Ix.at Qi Qw ?_ | refine Quo.nn Qw ?_ | refine Quo.t Qw ?_ | refine Rem.nn Qw ?_ | refine Rem.t Qw ?_ | (refine LK.callL ent39 (sortStr_ok (ss := pickK M seen) 0 rfl (by rw [List.length_map] at hpl; omega)) rfl rfl Ql (fun _ _ hcall => ?_) <;> obtain ⟨rfl, rfl⟩ := hcall) | refine Ask.ldB (T := tab) 0 rfl rfl rfl rfl ?_ | refine Ask.ldB (T := tab) 1 rfl rfl rfl rfl ?_ | refine Ask.ldBA (T := tab) 0 rfl rfl rfl rfl ?_ | refine Ask.ldBA (T := tab) 1 rfl rfl rfl rfl ?_ | refine AskR.cellA (T := tab) 0 rfl rfl rfl rfl ?_ | refine AskR.cellA (T := tab) 1 rfl rfl rfl rfl ?_ | refine AskR.cell1 (T := tab) 0 rfl rfl rfl rfl ?_ | refine AskR.cell1 (T := tab) 1 rfl rfl rfl rfl ?_ | refine Ask.lenR (T := tab) 0 rfl rfl rfl ?_ | refine Ask.lenR (T := tab) 1 rfl rfl rfl ?_ | refine Ask.idxR (T := tab) 0 rfl rfl rfl rfl Qw ?_ | refine Ask.idxR (T := tab) 1 rfl rfl rfl rfl Qw ?_ | refine Ask.ldR (T := tab) 0 rfl rfl rfl rfl Qi rfl ?_ | refine Ask.ldR (T := tab) 1 rfl rfl rfl rfl Qi rfl ?_ | refine Ask.ldR0 (T := tab) 0 rfl rfl rfl rfl Qi rfl ?_ | refine Ask.ldR0 (T := tab) 1 rfl rfl rfl rfl Qi rfl ?_ | refine Ask.ldRA (T := tab) 0 rfl rfl rfl rfl Qi ?_ | refine Ask.ldRA (T := tab) 1 rfl rfl rfl rfl Qi ?_ | refine LK.askW rfl ?_ | refine LK.st1 0 rfl rfl rfl rfl rfl rfl rfl ?_ | refine LK.st1 1 rfl rfl rfl rfl rfl rfl rfl ?_ | refine LK.stA 0 rfl rfl rfl rfl rfl rfl rfl rfl ?_ | refine LK.stA 1 rfl rfl rfl rfl rfl rfl rfl rfl ?_ | refine LK.bsl rfl rfl rfl rfl ?_ | (refine LK.frzR 0 rfl ?_ <;> refine LK.app 1 rfl rfl rfl rfl rfl (Sb.row 0 rfl) Q1 Qo ?_) | refine LK.app 0 rfl rfl rfl rfl rfl Qb Q1 Qo ?_ | refine LK.app 1 rfl rfl rfl rfl rfl Qb Q1 Qo ?_ | refine LK.stR 0 rfl rfl rfl rfl rfl (by omega) Qi rfl rfl ?_ | refine LK.stR 1 rfl rfl rfl rfl rfl (by omega) Qi rfl rfl ?_ | refine CK.any false Qk ?_ | fail))
    · conv => whnf
      refine Fin.frzR 0 rfl ?_
      refine Fin.see (Sb.row 0 rfl) ?_
      obtain ⟨g1, g2⟩ := hps seen i1 i2 hall
      refine .out [] (List.nil_sublist _) ⟨?_, rfl⟩
      rw [hsort seen g1 g2, List.map_map]
      refine congrArg (AV.sl 1) ?_
      rw [List.map_map]
      rfl
    · have hjl := (List.getElem?_eq_some_iff.1 hj).1
      have hn2 : (seen ++ [j]).Nodup := by
        rw [List.nodup_append]
        exact ⟨i1, by simp, fun a ha b hb e => by simp at hb; subst hb; subst e; exact hjn ha⟩
      have hl2 : ∀ k ∈ seen ++ [j], k < M.length := fun k hk => by
        rcases List.mem_append.1 hk with h | h
        · exact i2 k h
        · simp at h; omega
      have hs2 := nodup_lt hn2 hl2
      rw [List.length_append, List.length_singleton] at hs2
      (conv => whnf); (refine Nxt.of ((seen ++ [j], _)) [6, 7, 25, 26, 27, 28, 29, 30, 31, 32] Qr Qr Qr ?_ ?_ Qy ?_ <;> (try dsimp only) <;> (try omega))
      · exact ⟨hn2, hl2⟩
      · simp only [List.length_append, List.length_singleton]; omega
      · have e1 : (pickK M (seen ++ [j])).map sav = (pickK M seen).map sav ++ [sav p.1] := by
          simp [pickK, List.getD, hj]
        rw [e1]
        exact Qs
end Go.Proofs.Ytkdbijfkcjcjmaa
