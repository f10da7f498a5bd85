/-
  Walks: package refute: overworked, violated.
  Conditions: those of each theorem.
-/
import Derived.Test.YthjllgabmgkocaaGreatRG2
namespace Go.Proofs.YthjllgabmgkocaaGreat
open Go.E2 Go.Wage
theorem lk_mem {β : Type} : ∀ {M : List (Int × β)} {j : Nat} {q : Int × β}, (M.map (·.1)).Nodup → M[j]? = some q → lk q.1 M = some q.2
  | [], _, _, _, h => by simp at h
  | e :: M, 0, q, _, h => by
    simp only [List.getElem?_cons_zero, Option.some.injEq] at h
    subst h
    rw [lk, if_pos rfl]
  | e :: M, j + 1, q, hn, h => by
    rw [List.map_cons, List.nodup_cons] at hn
    rw [List.getElem?_cons_succ] at h
    have hm : q.1 ∈ M.map (·.1) := List.mem_map.2 ⟨q, List.mem_of_getElem? h, rfl⟩
    rw [lk, if_neg fun e' => hn.1 (by rw [← e']; exact hm)]
    exact lk_mem hn.2 h
theorem cntAt {M : List (Int × Int)} {f : Int → Int} (h : Cnt M f) {j : Nat} {q : Int × Int} (hq : M[j]? = some q) : q.2 = f q.1 := by
  have h1 := lk_mem h.1 hq
  rw [h.2 q.1] at h1
  split at h1
  · injection h1 with h1; exact h1.symm
  · cases h1
set_option maxRecDepth 4000 in
set_option maxHeartbeats 8000000 in
theorem uOverw_ok {c : Ctx} {L : List Ent} {i g : Nat} {p : Pl} {bd : Int} {log : List Sg} {cur : Int} (hL : L[i]? = some (Ck g p bd log cur)) (x : Wk) (mine : List Nat) (h : GOk p mine) :
    FnL Tryz.prog c 99 [pt g, wkav x, .sl 1 (mine.map Jn)] L fun r L' => r = B (ovB p x mine) ∧ L' = L := by
  refine FnL.same hL fun R => ?_
  have hl := h.l
  have hV := validP_iff.1 h.v
  have h24 := hV.2.1
  have hT := tri_of h.v (fun d hd => h.du hd) h.l
  have hlm : (mine.map Jn).length = mine.length := by simp
  have hlq : (p.duties.map fun d => AV.sl 2 ((minsD p d).map ptav)).length = p.duties.length := by simp
  refine fnL_run (T := tab) Tryz.func99 rfl Tryz.ntmps99 rfl Tryz.results99 (fun _ hw0 => ?_)
  repeat' ((conv => whnf) <;> (first | (refine LK.eff Eff.mkmap ?_ <;> rintro _ _ ⟨gm, rfl, rfl⟩) | refine Must.mk (fun h => h) ?_ | refine Must.mk (fun _ => rfl) ?_ | refine Must.mk Qw ?_ | refine MW.ok Qw ?_ | intro _ | exact Fin.pure rfl | refine Br.tt ?_ | refine Br.ff ?_ | (refine Br.mk (fun h => ?_) (fun h => ?_) <;> (try simp only [sh] at h) <;> (try first | (exfalso; omega) | exact absurd trivial h | (exfalso; simp at h; done))) | refine Ix.at ‹_› Qw ?_ | refine Ix.mapN Qw ?_ | refine Ix.mapN1 Qw ?_ | refine Ix.map Qw ?_ | refine Ix.at Qi Qw ?_ | refine lB (T := tab) ?_ | refine lBA (T := tab) ?_ | refine LK.askW rfl ?_ | refine s1 ?_ | refine sA ?_ | refine CK.any false Qk ?_ | fail))
  (conv => whnf); refine CK.loopK [9, 11, 19, 20, 21, 22, 23, 24, 25, 26, 27, 28, 29, 30, 31, 32, 33, 34, 35, 36, 37, 38, 39, 40, 41, 42, 43] (σ := Nat × List (Int × Int)) (fun s => s.1 ≤ mine.length ∧ Cnt s.2 (sumT (trip p (mine.take s.1)))) (fun ⟨k, _⟩ => [(19, I k)]) (fun ⟨_, M⟩ => [.mp gm (encM eI I M)]) _ (fun s => mine.length - s.1) (0, []) ⟨Nat.zero_le _, Cnt.nil fun _ => rfl⟩ Qy (List.Sublist.refl _) ?_
  conv => whnf
  rintro ⟨k, M⟩ ⟨i1, i2⟩
  simp only at i1 i2
  by_cases hk : k < mine.length
  · have hmk := h.m _ (gAt hk)
    have hts := trip_snoc (p := p) hk
    have hTp : trip p (mine.take (k + 1)) <+: trip p mine := by
      conv => rhs; rw [← List.take_append_drop (k + 1) mine]
      unfold trip
      rw [List.flatMap_append]
      exact List.prefix_append _ _
    rw [hts] at hTp
    have hlp : ((minsD p (p.duties.getD (mine.getD k default) default)).map ptav).length = (minsD p (p.duties.getD (mine.getD k default) default)).length := by simp
    have hjb := (mins_bd h.v (h.du (gAt hk))).1
    repeat' ((conv => whnf) <;> (first | refine Must.mk (fun h => h) ?_ | refine Must.mk (fun _ => rfl) ?_ | refine Must.mk Qw ?_ | refine MW.ok Qw ?_ | intro _ | exact Fin.pure rfl | refine Br.tt ?_ | refine Br.ff ?_ | (refine Br.mk (fun h => ?_) (fun h => ?_) <;> (try simp only [sh] at h) <;> (try first | (exfalso; omega) | exact absurd trivial h | (exfalso; simp at h; done))) | refine Ix.at ‹_› Qw ?_ | refine Ix.mapN Qw ?_ | refine Ix.mapN1 Qw ?_ | refine Ix.map Qw ?_ | refine Ix.at Qi Qw ?_ | refine lB (T := tab) ?_ | refine lBA (T := tab) ?_ | refine LK.askW rfl ?_ | refine s1 ?_ | refine sA ?_ | refine CK.any false Qk ?_ | fail))
    (conv => whnf); refine CK.loopK [11, 31, 32, 33, 34, 35, 36, 37, 38, 39, 40, 41, 42] (σ := Nat × List (Int × Int)) (fun s => s.1 ≤ (minsD p (p.duties.getD (mine.getD k default) default)).length ∧ Cnt s.2 (sumT (trip p (mine.take k) ++ ((minsD p (p.duties.getD (mine.getD k default) default)).take s.1).map fun q => ((mine.getD k default), q.1, q.2)))) (fun ⟨j, _⟩ => [(31, I j)]) (fun ⟨_, M⟩ => [.mp gm (encM eI I M)]) _ (fun s => (minsD p (p.duties.getD (mine.getD k default) default)).length - s.1) (0, M) ⟨Nat.zero_le _, by simpa using i2⟩ Qy (List.Sublist.refl _) ?_
    conv => whnf
    rintro ⟨j, M1⟩ ⟨j1, j2⟩
    simp only at j1 j2
    by_cases hj : j < (minsD p (p.duties.getD (mine.getD k default) default)).length
    · have htk : ((minsD p (p.duties.getD (mine.getD k default) default)).take (j + 1)).map (fun q => ((mine.getD k default), q.1, q.2)) = ((minsD p (p.duties.getD (mine.getD k default) default)).take j).map (fun q => ((mine.getD k default), q.1, q.2)) ++ [((mine.getD k default), ((minsD p (p.duties.getD (mine.getD k default) default)).getD j default).1, ((minsD p (p.duties.getD (mine.getD k default) default)).getD j default).2)] := by
        have e : (minsD p (p.duties.getD (mine.getD k default) default))[j] = ((minsD p (p.duties.getD (mine.getD k default) default)).getD j default) := (getD_at hj).symm
        rw [List.take_succ_eq_append_getElem hj, List.map_append, e]
        rfl
      have hT2 : (trip p (mine.take k) ++ ((minsD p (p.duties.getD (mine.getD k default) default)).take j).map fun q => ((mine.getD k default), q.1, q.2)) ++ [((mine.getD k default), ((minsD p (p.duties.getD (mine.getD k default) default)).getD j default).1, ((minsD p (p.duties.getD (mine.getD k default) default)).getD j default).2)] <+: trip p mine := by
        refine List.IsPrefix.trans ?_ hTp
        rw [List.append_assoc, ← htk]
        exact (List.prefix_append_right_inj _).2 ((List.take_prefix _ _).map _)
      have hpp : posT (trip p (mine.take k) ++ ((minsD p (p.duties.getD (mine.getD k default) default)).take j).map fun q => ((mine.getD k default), q.1, q.2)) := fun t ht => hT.pos t (hT2.subset (List.mem_append_left _ ht))
      have hq := hT.pos _ (hT2.subset (List.mem_append_right _ (List.mem_singleton.2 rfl)))
      have hlen := hT2.length_le
      have hTl := hT.len
      rw [List.length_append] at hlen
      have hget := j2.get (fun d => (sumT_bd d hpp).1) ((minsD p (p.duties.getD (mine.getD k default) default)).getD j default).1
      have hbd := sumT_bd ((minsD p (p.duties.getD (mine.getD k default) default)).getD j default).1 hpp
      have hadd := Cnt.add j2 hpp (mine.getD k default) ((minsD p (p.duties.getD (mine.getD k default) default)).getD j default).1 ((minsD p (p.duties.getD (mine.getD k default) default)).getD j default).2 hq.1
      rw [List.append_assoc, ← htk] at hadd
      simp only at hq
      have hb4 : (trip p (mine.take k) ++ ((minsD p (p.duties.getD (mine.getD k default) default)).take j).map fun q => ((mine.getD k default), q.1, q.2)).length ≤ 4000 := by omega
      repeat' ((conv => whnf) <;> (first | (refine LK.eff (Eff.mset (l := M1) (ev := I) mapIK 1 rfl rfl rfl (x := ((minsD p (p.duties.getD (mine.getD k default) default)).getD j default).1) (v := (lk ((minsD p (p.duties.getD (mine.getD k default) default)).getD j default).1 M1).getD 0 + ((minsD p (p.duties.getD (mine.getD k default) default)).getD j default).2) rfl rfl) ?_ <;> rintro _ _ ⟨rfl, rfl⟩) | refine LK.gr (Gr.mget (l := M1) (ev := I) (dflt := 0) mapIK rfl (fun _ => .v _) 1 rfl rfl rfl rfl).1 ?_ | refine Must.mk (fun h => h) ?_ | refine Must.mk (fun _ => rfl) ?_ | refine Must.mk Qw ?_ | refine MW.ok Qw ?_ | intro _ | exact Fin.pure rfl | refine Br.tt ?_ | refine Br.ff ?_ | (refine Br.mk (fun h => ?_) (fun h => ?_) <;> (try simp only [sh] at h) <;> (try first | (exfalso; omega) | exact absurd trivial h | (exfalso; simp at h; done))) | refine Ix.at ‹_› Qw ?_ | refine Ix.mapN Qw ?_ | refine Ix.mapN1 Qw ?_ | refine Ix.map Qw ?_ | refine Ix.at Qi Qw ?_ | refine lB (T := tab) ?_ | refine lBA (T := tab) ?_ | refine LK.askW rfl ?_ | refine s1 ?_ | refine sA ?_ | refine CK.any false Qk ?_ | fail))
      (conv => whnf); (refine Nxt.of ((j + 1, ups ((minsD p (p.duties.getD (mine.getD k default) default)).getD j default).1 ((lk ((minsD p (p.duties.getD (mine.getD k default) default)).getD j default).1 M1).getD 0 + ((minsD p (p.duties.getD (mine.getD k default) default)).getD j default).2) M1)) [11, 31, 32, 33, 34, 35, 36, 37, 38, 39, 40, 41, 42] Qr Qr Qr ?_ ?_ Qy ?_ <;> (try dsimp only) <;> (try omega))
      · exact ⟨hj, hadd⟩
      · exact Qs
    · have e : (minsD p (p.duties.getD (mine.getD k default) default)).take j = minsD p (p.duties.getD (mine.getD k default) default) := List.take_of_length_le (by omega)
      rw [e, ← hts] at j2
      repeat' ((conv => whnf) <;> (first | (refine Nxt.of ((k + 1, M1)) [9, 11, 19, 20, 21, 22, 23, 24, 25, 26, 27, 28, 29, 30, 31, 32, 33, 34, 35, 36, 37, 38, 39, 40, 41, 42, 43] Qr Qr Qr ?_ ?_ Qy ?_ <;> (try dsimp only) <;> (try omega)) | refine Must.mk (fun h => h) ?_ | refine Must.mk (fun _ => rfl) ?_ | refine Must.mk Qw ?_ | refine MW.ok Qw ?_ | intro _ | exact Fin.pure rfl | refine Br.tt ?_ | refine Br.ff ?_ | (refine Br.mk (fun h => ?_) (fun h => ?_) <;> (try simp only [sh] at h) <;> (try first | (exfalso; omega) | exact absurd trivial h | (exfalso; simp at h; done))) | refine Ix.at ‹_› Qw ?_ | refine Ix.mapN Qw ?_ | refine Ix.mapN1 Qw ?_ | refine Ix.map Qw ?_ | refine Ix.at Qi Qw ?_ | refine lB (T := tab) ?_ | refine lBA (T := tab) ?_ | refine LK.askW rfl ?_ | refine s1 ?_ | refine sA ?_ | refine CK.any false Qk ?_ | fail))
      · exact ⟨hk, j2⟩
      · exact Qs
  · rw [List.take_of_length_le (by omega)] at i2
    generalize hTe : trip p mine = T at *
    have hML : M.length ≤ 40001 := i2.len (lo := -1) fun d hd => by have := hT.day d ((sumT_pos hT.pos).1 hd); omega
    have hov : ovB p x mine = (T.map (·.2.1)).any (dayB p x T) := by rw [ovB, hTe]
    repeat' ((conv => whnf) <;> (first | (refine LK.eff (Eff.range (l := M) mapIK 0 rfl rfl) ?_ <;> rintro _ _ ⟨q, rfl, rfl⟩) | refine Must.mk (fun h => h) ?_ | refine Must.mk (fun _ => rfl) ?_ | refine Must.mk Qw ?_ | refine MW.ok Qw ?_ | intro _ | exact Fin.pure rfl | refine Br.tt ?_ | refine Br.ff ?_ | (refine Br.mk (fun h => ?_) (fun h => ?_) <;> (try simp only [sh] at h) <;> (try first | (exfalso; omega) | exact absurd trivial h | (exfalso; simp at h; done))) | refine Ix.at ‹_› Qw ?_ | refine Ix.mapN Qw ?_ | refine Ix.mapN1 Qw ?_ | refine Ix.map Qw ?_ | refine Ix.at Qi Qw ?_ | refine lB (T := tab) ?_ | refine lBA (T := tab) ?_ | refine LK.askW rfl ?_ | refine s1 ?_ | refine sA ?_ | refine CK.any false Qk ?_ | fail))
    (conv => whnf); refine CK.loopK [6, 12, 13, 14, 15, 46, 47, 48, 49, 50, 51, 52, 53, 54, 55, 56, 57, 58, 59, 60, 61, 62, 63, 64, 65, 66, 67, 68, 69, 70, 71, 72, 73, 74, 75, 76, 77, 78, 79, 80, 81] (σ := List Nat) (fun s => s.Nodup ∧ (∀ k ∈ s, k < M.length) ∧ ∀ d ∈ keysAt M s, dayB p x T d = false) (fun _ => []) (fun seen => [.obj q (.mapIter (some gm) M.length seen.toArray M.length)]) _ (fun s => M.length - s.length) [] ⟨List.nodup_nil, by simp, by simp [keysAt]⟩ Qy (List.Sublist.refl _) ?_
    conv => whnf
    rintro seen ⟨n1, n2, n3⟩
    have hsl := nodup_len n1 n2
    repeat' ((conv => whnf) <;> (first | refine LK.gr (Gr.entry (j := 0) (l := M) (seen := seen) 1 rfl rfl rfl hjp) ?_ | (refine LK.eff (Eff.next (j := 0) (l := M) (seen := seen) 1 rfl rfl (by simp) rfl) ?_ <;> rintro _ _ (⟨hall, rfl, rfl⟩ | ⟨jn, pn, hjp, hjn, rfl, rfl⟩)) | refine Must.mk (fun h => h) ?_ | refine Must.mk (fun _ => rfl) ?_ | refine Must.mk Qw ?_ | refine MW.ok Qw ?_ | intro _ | exact Fin.pure rfl | refine Br.tt ?_ | refine Br.ff ?_ | (refine Br.mk (fun h => ?_) (fun h => ?_) <;> (try simp only [sh] at h) <;> (try first | (exfalso; omega) | exact absurd trivial h | (exfalso; simp at h; done))) | refine Ix.at ‹_› Qw ?_ | refine Ix.mapN Qw ?_ | refine Ix.mapN1 Qw ?_ | refine Ix.map Qw ?_ | refine Ix.at Qi Qw ?_ | refine lB (T := tab) ?_ | refine lBA (T := tab) ?_ | refine LK.askW rfl ?_ | refine s1 ?_ | refine sA ?_ | refine CK.any false Qk ?_ | fail))
    · have hperm := keysAt_perm n1 n2 hall
      repeat' ((conv => whnf) <;> (first | refine Must.mk (fun h => h) ?_ | refine Must.mk (fun _ => rfl) ?_ | refine Must.mk Qw ?_ | refine MW.ok Qw ?_ | intro _ | exact Fin.pure rfl | refine Br.tt ?_ | refine Br.ff ?_ | (refine Br.mk (fun h => ?_) (fun h => ?_) <;> (try simp only [sh] at h) <;> (try first | (exfalso; omega) | exact absurd trivial h | (exfalso; simp at h; done))) | refine Ix.at ‹_› Qw ?_ | refine Ix.mapN Qw ?_ | refine Ix.mapN1 Qw ?_ | refine Ix.map Qw ?_ | refine Ix.at Qi Qw ?_ | refine lB (T := tab) ?_ | refine lBA (T := tab) ?_ | refine LK.askW rfl ?_ | refine s1 ?_ | refine sA ?_ | refine CK.any false Qk ?_ | fail))
      conv => whnf
      refine .out _ (by exact Qs) ⟨congrArg B ?_, rfl⟩
      rw [hov]
      refine (List.any_eq_false.2 fun d hd => ?_).symm
      rw [Bool.not_eq_true]
      exact n3 d (hperm.mem_iff.2 ((i2.keys d).2 ((sumT_pos hT.pos).2 hd)))
    · have hpv := cntAt i2 hjp
      have hday : pn.1 ∈ T.map (·.2.1) := (sumT_pos hT.pos).1 ((i2.keys pn.1).1 (List.mem_map.2 ⟨pn, List.mem_of_getElem? hjp, rfl⟩))
      repeat' ((conv => whnf) <;> (first | refine Must.mk (fun h => h) ?_ | refine Must.mk (fun _ => rfl) ?_ | refine Must.mk Qw ?_ | refine MW.ok Qw ?_ | intro _ | exact Fin.pure rfl | refine Br.tt ?_ | refine Br.ff ?_ | (refine Br.mk (fun h => ?_) (fun h => ?_) <;> (try simp only [sh] at h) <;> (try first | (exfalso; omega) | exact absurd trivial h | (exfalso; simp at h; done))) | refine Ix.at ‹_› Qw ?_ | refine Ix.mapN Qw ?_ | refine Ix.mapN1 Qw ?_ | refine Ix.map Qw ?_ | refine Ix.at Qi Qw ?_ | refine lB (T := tab) ?_ | refine lBA (T := tab) ?_ | refine LK.askW rfl ?_ | refine s1 ?_ | refine sA ?_ | refine CK.any false Qk ?_ | fail))
      conv => whnf
      refine .out _ (by exact Qs) ⟨congrArg B ?_, rfl⟩
      rw [hov]
      refine (List.any_eq_true.2 ⟨_, hday, ?_⟩).symm
      unfold dayB
      rw [← hpv, h.1, decide_eq_true h.2]
      rfl
    · have hpv := cntAt i2 hjp
      have hkd := (i2.keys pn.1).1 (List.mem_map.2 ⟨pn, List.mem_of_getElem? hjp, rfl⟩)
      have hday : pn.1 ∈ T.map (·.2.1) := (sumT_pos hT.pos).1 hkd
      have hdb := hT.day _ hday
      repeat' ((conv => whnf) <;> (first | refine Must.mk (fun h => h) ?_ | refine Must.mk (fun _ => rfl) ?_ | refine Must.mk Qw ?_ | refine MW.ok Qw ?_ | intro _ | exact Fin.pure rfl | refine Br.tt ?_ | refine Br.ff ?_ | (refine Br.mk (fun h => ?_) (fun h => ?_) <;> (try simp only [sh] at h) <;> (try first | (exfalso; omega) | exact absurd trivial h | (exfalso; simp at h; done))) | refine Ix.at ‹_› Qw ?_ | refine Ix.mapN Qw ?_ | refine Ix.mapN1 Qw ?_ | refine Ix.map Qw ?_ | refine Ix.at Qi Qw ?_ | refine lB (T := tab) ?_ | refine lBA (T := tab) ?_ | refine LK.askW rfl ?_ | refine s1 ?_ | refine sA ?_ | refine CK.any false Qk ?_ | fail))
      (conv => whnf); refine CK.loopK [14, 15, 63, 64, 65, 66, 67, 68, 69, 70, 71, 72, 73] (σ := Nat × Int) (fun q => q.1 ≤ 7 ∧ q.2 = ((List.range q.1).map fun i : Nat => sumT T (pn.1 + i)).sum) (fun ⟨i, s⟩ => [(63, I i), (14, I s)]) (fun _ => []) _ (fun q => 7 - q.1) (0, 0) ⟨by omega, by simp⟩ Qy (List.Sublist.refl _) ?_
      conv => whnf
      rintro ⟨e, s⟩ ⟨he, hs⟩
      simp only at he hs
      have hwb := week_bd hT pn.1 e
      by_cases he7 : e < 7
      · have hget := i2.get (fun d => (sumT_bd d hT.pos).1) (pn.1 + e)
        have hsb := sumT_bd (pn.1 + e) hT.pos
        have hTl := hT.len
        have hws := week_succ T pn.1 e
        repeat' ((conv => whnf) <;> (first | refine LK.gr (Gr.mget (l := M) (ev := I) (dflt := 0) mapIK rfl (fun _ => .v _) 1 rfl rfl rfl rfl).1 ?_ | refine Must.mk (fun h => h) ?_ | refine Must.mk (fun _ => rfl) ?_ | refine Must.mk Qw ?_ | refine MW.ok Qw ?_ | intro _ | exact Fin.pure rfl | refine Br.tt ?_ | refine Br.ff ?_ | (refine Br.mk (fun h => ?_) (fun h => ?_) <;> (try simp only [sh] at h) <;> (try first | (exfalso; omega) | exact absurd trivial h | (exfalso; simp at h; done))) | refine Ix.at ‹_› Qw ?_ | refine Ix.mapN Qw ?_ | refine Ix.mapN1 Qw ?_ | refine Ix.map Qw ?_ | refine Ix.at Qi Qw ?_ | refine lB (T := tab) ?_ | refine lBA (T := tab) ?_ | refine LK.askW rfl ?_ | refine s1 ?_ | refine sA ?_ | refine CK.any false Qk ?_ | fail))
        (conv => whnf); (refine Nxt.of ((e + 1, s + (lk (pn.1 + e) M).getD 0)) [14, 15, 63, 64, 65, 66, 67, 68, 69, 70, 71, 72, 73] Qr Qr Qr ?_ ?_ Qy ?_ <;> (try dsimp only) <;> (try omega))
        exact Qs
      · have hs7 : s = week7 T pn.1 := by
          obtain rfl : e = 7 := by omega
          exact hs
        have hdB : dayB p x T pn.1 = decide (p.lim.week < week7 T pn.1) := by
          unfold dayB
          rw [← hpv]
          rcases h with h | h
          · rw [h]; rfl
          · rw [decide_eq_false (show ¬ p.lim.minor < pn.2 by omega), Bool.and_false, Bool.false_or]
        repeat' ((conv => whnf) <;> (first | refine Must.mk (fun h => h) ?_ | refine Must.mk (fun _ => rfl) ?_ | refine Must.mk Qw ?_ | refine MW.ok Qw ?_ | intro _ | exact Fin.pure rfl | refine Br.tt ?_ | refine Br.ff ?_ | (refine Br.mk (fun h => ?_) (fun h => ?_) <;> (try simp only [sh] at h) <;> (try first | (exfalso; omega) | exact absurd trivial h | (exfalso; simp at h; done))) | refine Ix.at ‹_› Qw ?_ | refine Ix.mapN Qw ?_ | refine Ix.mapN1 Qw ?_ | refine Ix.map Qw ?_ | refine Ix.at Qi Qw ?_ | refine lB (T := tab) ?_ | refine lBA (T := tab) ?_ | refine LK.askW rfl ?_ | refine s1 ?_ | refine sA ?_ | refine CK.any false Qk ?_ | fail))
        · conv => whnf
          refine .out _ (by exact Qs) ⟨congrArg B ?_, rfl⟩
          rw [hov]
          refine (List.any_eq_true.2 ⟨_, hday, ?_⟩).symm
          rw [hdB]
          exact decide_eq_true (by omega)
        · rename_i hle
          have hn2 : (seen ++ [jn]).Nodup := by
            rw [List.nodup_append]
            exact ⟨n1, by simp, fun a ha b hb e => by simp at hb; subst hb; subst e; exact hjn ha⟩
          have hjl := (List.getElem?_eq_some_iff.1 hjp).1
          have hl2 : ∀ k ∈ seen ++ [jn], k < M.length := fun k hk => by
            rcases List.mem_append.1 hk with h | h
            · exact n2 k h
            · simp at h; omega
          have hs2 := nodup_len hn2 hl2
          rw [List.length_append, List.length_singleton] at hs2
          (conv => whnf); (refine Nxt.of (seen ++ [jn]) [6, 12, 13, 14, 15, 46, 47, 48, 49, 50, 51, 52, 53, 54, 55, 56, 57, 58, 59, 60, 61, 62, 63, 64, 65, 66, 67, 68, 69, 70, 71, 72, 73, 74, 75, 76, 77, 78, 79, 80, 81] Qr Qr Qr ?_ ?_ Qy ?_ <;> (try dsimp only) <;> (try omega))
          · refine ⟨hn2, hl2, fun d hd => ?_⟩
            rw [keysAt_snoc hjp, List.mem_append, List.mem_singleton] at hd
            rcases hd with hd | rfl
            · exact n3 d hd
            · rw [hdB]
              exact decide_eq_false (by omega)
          · simp only [List.length_append, List.length_singleton]; omega
          · exact Qs
theorem mineR_ok {p : Pl} {ro : List Int} (hv : validP p = true) (hr : ro.length = p.duties.length) (w : Int) : GOk p (mineR ro w) :=
  ⟨hv, fun d hd => by have := mineR_lt hd; omega, by have := mineR_len ro w; have := (validP_iff.1 hv).2.1; omega⟩
set_option maxRecDepth 4000 in
set_option maxHeartbeats 8000000 in
theorem uViol_ok {c : Ctx} {L : List Ent} {i g : Nat} {p : Pl} {bd : Int} {log : List Sg} {cur : Int} (hL : L[i]? = some (Ck g p bd log cur)) (ro : List Int) (hv : validP p = true) (hr : ro.length = p.duties.length) :
    FnL Tryz.prog c 70 [pt g, .sl 1 (ro.map I)] L fun r L' => r = B (violB p ro) ∧ L' = L := by
  refine FnL.same hL fun R => ?_
  have hV := validP_iff.1 hv
  have h24 := hV.2.1
  have h12 := hV.2.2.1
  have hlr : (ro.map I).length = ro.length := by simp
  have hlw : (p.workers.map wkav).length = p.workers.length := by simp
  rw [violB_K]
  refine fnL_run (T := tab) Tryz.func70 rfl Tryz.ntmps70 rfl Tryz.results70 (fun _ hw0 => ?_)
  repeat' ((conv => whnf) <;> (first | refine Must.mk (fun h => h) ?_ | refine Must.mk (fun _ => rfl) ?_ | refine Must.mk Qw ?_ | refine MW.ok Qw ?_ | intro _ | exact Fin.pure rfl | refine Br.tt ?_ | refine Br.ff ?_ | (refine Br.mk (fun h => ?_) (fun h => ?_) <;> (try simp only [sh] at h) <;> (try first | (exfalso; omega) | exact absurd trivial h | (exfalso; simp at h; done))) | refine Ix.at ‹_› Qw ?_ | refine Ix.mapN Qw ?_ | refine Ix.mapN1 Qw ?_ | refine Ix.map Qw ?_ | refine Ix.at Qi Qw ?_ | refine lB (T := tab) ?_ | refine lBA (T := tab) ?_ | refine LK.askW rfl ?_ | refine s1 ?_ | refine sA ?_ | refine CK.any false Qk ?_ | fail))
  (conv => whnf); refine CK.loopK [4, 5, 6, 7, 8, 15, 16, 17, 18, 19, 20, 21, 22, 23, 24, 25, 26, 27, 28, 29, 30, 31, 32, 33, 34, 35, 36, 37, 38, 39, 40, 41, 42, 43, 44, 45, 46, 47, 48, 49, 50, 51, 52, 53, 54, 55, 56, 57, 58, 59, 60, 61, 62] (σ := Nat) (fun k => k ≤ p.workers.length ∧ ((List.range k).any fun w => violK p (p.workers.getD w default) (mineR ro w)) = false) (fun k => [(15, I k)]) (fun _ => []) _ (fun k => p.workers.length - k) 0 ⟨Nat.zero_le _, rfl⟩ Qy (List.Sublist.refl _) ?_
  conv => whnf
  rintro k ⟨i1, i2⟩
  by_cases hk : k < p.workers.length
  · have hwk := List.all_eq_true.1 hV.2.2.2.2.1 _ (gAt hk)
    have hG := mineR_ok hv hr k
    repeat' ((conv => whnf) <;> (first | refine Must.mk (fun h => h) ?_ | refine Must.mk (fun _ => rfl) ?_ | refine Must.mk Qw ?_ | refine MW.ok Qw ?_ | intro _ | exact Fin.pure rfl | refine Br.tt ?_ | refine Br.ff ?_ | (refine Br.mk (fun h => ?_) (fun h => ?_) <;> (try simp only [sh] at h) <;> (try first | (exfalso; omega) | exact absurd trivial h | (exfalso; simp at h; done))) | refine Ix.at ‹_› Qw ?_ | refine Ix.mapN Qw ?_ | refine Ix.mapN1 Qw ?_ | refine Ix.map Qw ?_ | refine Ix.at Qi Qw ?_ | refine lB (T := tab) ?_ | refine lBA (T := tab) ?_ | refine LK.askW rfl ?_ | refine s1 ?_ | refine sA ?_ | refine CK.any false Qk ?_ | fail))
    refine CK.nilrow 3 1 ?_
    (conv => whnf); refine CK.loopK [6, 7, 8, 20, 21, 22, 23, 24, 25, 26, 27, 28, 29, 30, 31, 32] (σ := Nat × Option Addr × Nat × Nat) (fun s => s.1 ≤ ro.length) (fun ⟨j, A, q, cp⟩ => [(20, I j), (6, .v (.slice A q cp))]) (fun ⟨j, A, q, cp⟩ => [.row (.slice A q cp) 3 1 0 false ((mineK ro k j).map Jn)]) _ (fun s => ro.length - s.1) (0, none, 0, 0) (Nat.zero_le _) Qy (List.Sublist.refl _) ?_
    conv => whnf
    rintro ⟨j, A, q, cp⟩ j1
    simp only at j1
    by_cases hj : j < ro.length
    · have hkl := mineK_len ro k j
      have hks := mineK_succ ro k j
      repeat' ((conv => whnf) <;> (first | refine Must.mk (fun h => h) ?_ | refine Must.mk (fun _ => rfl) ?_ | refine Must.mk Qw ?_ | refine MW.ok Qw ?_ | intro _ | exact Fin.pure rfl | refine Br.tt ?_ | refine Br.ff ?_ | (refine Br.mk (fun h => ?_) (fun h => ?_) <;> (try simp only [sh] at h) <;> (try first | (exfalso; omega) | exact absurd trivial h | (exfalso; simp at h; done))) | refine Ix.at ‹_› Qw ?_ | refine Ix.mapN Qw ?_ | refine Ix.mapN1 Qw ?_ | refine Ix.map Qw ?_ | refine Ix.at Qi Qw ?_ | refine lB (T := tab) ?_ | refine lBA (T := tab) ?_ | refine LK.askW rfl ?_ | refine s1 ?_ | refine sA ?_ | refine pS (T := tab) ?_ | refine LK.gr (Gr.bslV (T := tab) rfl rfl rfl rfl) ?_ | refine Ask.of (Gr.bslV (T := tab) rfl rfl rfl rfl) ?_ | refine CK.any false Qk ?_ | refine CK.any true Qk ?_ | fail))
      · rename_i A2 q2 c2
        rw [if_pos h] at hks
        (conv => whnf); (refine Nxt.of ((j + 1, A2, q2, c2)) [6, 7, 8, 20, 21, 22, 23, 24, 25, 26, 27, 28, 29, 30, 31, 32] Qr Qr Qr ?_ ?_ Qy ?_ <;> (try dsimp only) <;> (try omega))
        rw [hks, List.map_append]
        exact Qs
      · rw [if_neg h, List.append_nil] at hks
        (conv => whnf); (refine Nxt.of ((j + 1, A, q, cp)) [6, 7, 8, 20, 21, 22, 23, 24, 25, 26, 27, 28, 29, 30, 31, 32] Qr Qr Qr ?_ ?_ Qy ?_ <;> (try dsimp only) <;> (try omega))
        rw [hks]
        exact Qs
    · have ek : mineK ro k j = mineR ro k := by
        obtain rfl : j = ro.length := by omega
        rfl
      have hvk : violK p (p.workers.getD k default) (mineR ro k) = ((unB p (p.workers.getD k default) (mineR ro k) || restA p (mineR ro k)) || ovB p (p.workers.getD k default) (mineR ro k)) := rfl
      have hsn : ((List.range (k + 1)).any fun w => violK p (p.workers.getD w default) (mineR ro w)) = violK p (p.workers.getD k default) (mineR ro k) := by
        rw [List.range_succ, List.any_append, i2, Bool.false_or, List.any_cons, List.any_nil, Bool.or_false]
      repeat' ((conv => whnf) <;> (first | refine Must.mk (fun h => h) ?_ | refine Must.mk (fun _ => rfl) ?_ | refine Must.mk Qw ?_ | refine MW.ok Qw ?_ | intro _ | exact Fin.pure rfl | refine Br.tt ?_ | refine Br.ff ?_ | (refine Br.mk (fun h => ?_) (fun h => ?_) <;> (try simp only [sh] at h) <;> (try first | (exfalso; omega) | exact absurd trivial h | (exfalso; simp at h; done))) | refine Ix.at ‹_› Qw ?_ | refine Ix.mapN Qw ?_ | refine Ix.mapN1 Qw ?_ | refine Ix.map Qw ?_ | refine Ix.at Qi Qw ?_ | refine lB (T := tab) ?_ | refine lBA (T := tab) ?_ | refine LK.askW rfl ?_ | refine s1 ?_ | refine sA ?_ | refine CK.any false Qk ?_ | fail))
      conv => whnf
      dsimp only
      rw [ek]
      generalize hmine : mineR ro k = mine at *
      repeat' ((conv => whnf) <;> (first | (refine LK.frzR 0 rfl ?_ <;> refine LK.callL ent97 (uUnable_ok Qj (p.workers.getD k default) mine hG hwk) rfl rfl Ql (fun _ _ hcall => ?_) <;> obtain ⟨rfl, rfl⟩ := hcall) | refine Must.mk (fun h => h) ?_ | refine Must.mk (fun _ => rfl) ?_ | refine Must.mk Qw ?_ | refine MW.ok Qw ?_ | intro _ | exact Fin.pure rfl | refine Br.tt ?_ | refine Br.ff ?_ | (refine Br.mk (fun h => ?_) (fun h => ?_) <;> (try simp only [sh] at h) <;> (try first | (exfalso; omega) | exact absurd trivial h | (exfalso; simp at h; done))) | refine Ix.at ‹_› Qw ?_ | refine Ix.mapN Qw ?_ | refine Ix.mapN1 Qw ?_ | refine Ix.map Qw ?_ | refine Ix.at Qi Qw ?_ | (refine LK.callL ent98 (uRestl_ok Qj mine hG) rfl rfl Ql (fun _ _ hcall => ?_) <;> obtain ⟨rfl, rfl⟩ := hcall) | refine LK.callLW ent98 rfl ?_ (fun h => uRestl_ok Qj mine hG) rfl rfl Ql ?_ | (refine LK.callL ent99 (uOverw_ok Qj (p.workers.getD k default) mine hG) rfl rfl Ql (fun _ _ hcall => ?_) <;> obtain ⟨rfl, rfl⟩ := hcall) | refine LK.callLW ent99 rfl ?_ (fun h => uOverw_ok Qj (p.workers.getD k default) mine hG) rfl rfl Ql ?_ | refine lB (T := tab) ?_ | refine lBA (T := tab) ?_ | refine LK.askW rfl ?_ | refine s1 ?_ | refine sA ?_ | refine CK.any false Qk ?_ | exact True.intro | fail))
      · have hT : violK p (p.workers.getD k default) mine = true := by
          rw [hvk]
          simp only [Bool.or_eq_true]
          exact h
        repeat' ((conv => whnf) <;> (first | refine Must.mk (fun h => h) ?_ | refine Must.mk (fun _ => rfl) ?_ | refine Must.mk Qw ?_ | refine MW.ok Qw ?_ | intro _ | exact Fin.pure rfl | refine Br.tt ?_ | refine Br.ff ?_ | (refine Br.mk (fun h => ?_) (fun h => ?_) <;> (try simp only [sh] at h) <;> (try first | (exfalso; omega) | exact absurd trivial h | (exfalso; simp at h; done))) | refine Ix.at ‹_› Qw ?_ | refine Ix.mapN Qw ?_ | refine Ix.mapN1 Qw ?_ | refine Ix.map Qw ?_ | refine Ix.at Qi Qw ?_ | refine lB (T := tab) ?_ | refine lBA (T := tab) ?_ | refine LK.askW rfl ?_ | refine s1 ?_ | refine sA ?_ | refine CK.any false Qk ?_ | fail))
        conv => whnf
        refine .out _ (by exact Qs) ⟨congrArg B ?_, rfl⟩
        refine (List.any_eq_true.2 ⟨k, List.mem_range.2 hk, ?_⟩).symm
        rw [hmine]
        exact hT
      · have hF : violK p (p.workers.getD k default) mine = false := by
          rw [hvk]
          simp only [Bool.or_eq_false_iff]
          exact h
        (conv => whnf); (refine Nxt.of (k + 1) [4, 5, 6, 7, 8, 15, 16, 17, 18, 19, 20, 21, 22, 23, 24, 25, 26, 27, 28, 29, 30, 31, 32, 33, 34, 35, 36, 37, 38, 39, 40, 41, 42, 43, 44, 45, 46, 47, 48, 49, 50, 51, 52, 53, 54, 55, 56, 57, 58, 59, 60, 61, 62] Qr Qr Qr ?_ ?_ Qy ?_ <;> (try dsimp only) <;> (try omega))
        · exact ⟨hk, hsn.trans hF⟩
        · exact Qs
  · repeat' ((conv => whnf) <;> (first | refine Must.mk (fun h => h) ?_ | refine Must.mk (fun _ => rfl) ?_ | refine Must.mk Qw ?_ | refine MW.ok Qw ?_ | intro _ | exact Fin.pure rfl | refine Br.tt ?_ | refine Br.ff ?_ | (refine Br.mk (fun h => ?_) (fun h => ?_) <;> (try simp only [sh] at h) <;> (try first | (exfalso; omega) | exact absurd trivial h | (exfalso; simp at h; done))) | refine Ix.at ‹_› Qw ?_ | refine Ix.mapN Qw ?_ | refine Ix.mapN1 Qw ?_ | refine Ix.map Qw ?_ | refine Ix.at Qi Qw ?_ | refine lB (T := tab) ?_ | refine lBA (T := tab) ?_ | refine LK.askW rfl ?_ | refine s1 ?_ | refine sA ?_ | refine CK.any false Qk ?_ | fail))
    conv => whnf
    refine .out _ (by exact Qs) ⟨congrArg B ?_, rfl⟩
    obtain rfl : k = p.workers.length := by omega
    exact i2.symm
end Go.Proofs.YthjllgabmgkocaaGreat
