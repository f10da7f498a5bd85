/-
  Walks: package roster: who, single, the finders of skill, away, rest, night.
  Conditions: those of each theorem.
-/
import Derived.Test.YtjfnkmlnbaianaaGreatRO3
import Derived.Test.YtjfnkmlnbaianaaGreatE5E
namespace Go.Proofs.YtjfnkmlnbaianaaGreat
open Go.E2 Go.Wage
def Fnd (l0 : List Vi) : AV → List Ent → Prop := fun r E => E = [] ∧ ∃ l : List Vi, r = .sl 4 (l.map viav) ∧ (∀ v, v ∈ l ↔ v ∈ l0) ∧ l.length ≤ 1000000 ∧ l.Nodup
structure MineOk (p : Pl) (w : Nat) (mine : List Nat) : Prop where
 v : validP p = true
 w : w < p.workers.length
 m : ∀ d ∈ mine, d < p.duties.length
 l : mine.length ≤ 1000
 s : Small p
 n : mine.Nodup
theorem MineOk.du {p : Pl} {w : Nat} {mine : List Nat} (h : MineOk p w mine) {d : Nat} (hd : d ∈ mine) : dutyOk p (p.duties.getD d default) = true := List.all_eq_true.1 (validP_iff.1 h.v).2.2.2.1 _ (getD_mem (h.m d hd))
theorem MineOk.wk {p : Pl} {w : Nat} {mine : List Nat} (h : MineOk p w mine) : wkOk (p.workers.getD w default) = true := List.all_eq_true.1 (validP_iff.1 h.v).2.2.2.2.1 _ (getD_mem h.w)
theorem oWho_ok (p : Pl) (w : Nat) (mine : List Nat) (h : MineOk p w mine) : FnA Tryz.prog 192 [.agg (tcs p w mine)] (wkav (p.workers.getD w default)) := by
 have hw := h.w
 have hs := h.s.wk
 have hlw : (p.workers.map wkav).length = p.workers.length := by simp
 refine fn_run (T := tab) Tryz.func192 rfl Tryz.ntmps192 rfl Tryz.results192 (fun _ => ?_)
 repeat' ((conv => whnf) <;> (first | refine CK.anyK (id := 1) [0, 1, 2, 3, 4, 5, 6, 7, 8, 9] [10] _ (List.Sublist.cons _ (List.Sublist.refl _)) Qk ?_ | refine zM ?_ | refine zW ?_ | intro _ | exact zF | refine Fin.pure ?_ | refine Br.tt ?_ | refine Br.ff ?_ | (refine Br.mk (fun h => ?_) (fun h => ?_) <;> (try simp only [sh] at h) <;> try first | (exfalso; omega) | exact absurd trivial h | (simp at h; done)) | refine zA ?_ | refine zN ?_ | refine zO ?_ | refine zP ?_ | refine zB ?_ | refine lB ?_ | refine lBA ?_ | refine rA ?_ | refine r1 ?_ | refine zK ?_ | refine s1 ?_ | refine sA ?_ | refine Kx.nil ?_ | refine Kx.stp rfl rfl Qs ?_ | refine kA ?_ | (refine Kx.frzR 0 rfl ?_ <;> refine kF ?_) | refine kP ?_ | refine k1 ?_ | refine kB ?_ | refine kL ?_ | refine zC ?_ | fail))
theorem nodup_map {α β : Type} {f : α → β} (hf : ∀ a b, f a = f b → a = b) {l : List α} (h : l.Nodup) : (l.map f).Nodup := by
 unfold List.Nodup at *
 rw [List.pairwise_map]
 exact h.imp fun hab e => hab (hf _ _ e)
theorem sing_nodup (kind w : Int) (f : Nat → Bool) {mine : List Nat} (h : mine.Nodup) : (sing kind w f mine).Nodup := by
 unfold sing
 refine nodup_map (fun a b e => ?_) (h.filter _)
 injection e with _ _ e
 omega
theorem restL_nodup {p : Pl} {w : Int} : ∀ {mine : List Nat}, mine.Nodup → (restL p w mine).Nodup ∧ ∀ v ∈ restL p w mine, v.kind = 3 ∧ ∃ d ∈ mine, v.fst = (d : Int)
 | [], _ => ⟨by simp [restL], by simp [restL]⟩
 | d :: l, h => by
  rw [List.nodup_cons] at h
  obtain ⟨i1, i2⟩ := restL_nodup (p := p) (w := w) h.2
  rw [restL]
  refine ⟨List.nodup_append.2 ⟨nodup_map (fun a b e => ?_) (h.2.filter _), i1, fun a ha b hb e => ?_⟩, fun v hv => ?_⟩
  ·injection e with _ _ _ e
   omega
  ·obtain ⟨x, _, rfl⟩ := List.mem_map.1 ha
   obtain ⟨_, y, hy, e2⟩ := i2 b hb
   rw [← e] at e2
   simp only at e2
   exact h.1 (by rwa [show d = y by omega])
  ·rcases List.mem_append.1 hv with hv | hv
   ·obtain ⟨x, _, rfl⟩ := List.mem_map.1 hv
    exact ⟨rfl, d, by simp, rfl⟩
   ·obtain ⟨h1, y, hy, h2⟩ := i2 v hv
    exact ⟨h1, y, by simp [hy], h2⟩
theorem sing_take {kind w : Int} {f : Nat → Bool} {mine : List Nat} {k : Nat} (hk : k < mine.length) : sing kind w f (mine.take (k + 1)) = sing kind w f (mine.take k) ++ if f (mine.getD k default) = true then [⟨kind, w, mine.getD k default, -1⟩] else [] := by
 unfold sing
 rw [List.take_succ_eq_append_getElem hk, List.filter_append, List.map_append, getD_at hk, List.filter_cons]
 split <;> rfl
theorem sing_len (kind w : Int) (f : Nat → Bool) (mine : List Nat) : (sing kind w f mine).length ≤ mine.length := by
 unfold sing
 rw [List.length_map]
 exact List.length_filter_le _ _
theorem oSingle_ok (p : Pl) (w : Nat) (mine : List Nat) (kind : Int) (g : FuncId) (caps : List AV) (f : Nat → Bool) (hl : mine.length ≤ 1000) (hent : EntersT Tryz.prog g) (hf : ∀ d ∈ mine, FnA Tryz.prog g ([In d] ++ caps) (B (f d))) :
  FnA Tryz.prog 193 [.agg (tcs p w mine), I kind, .fn (.func g) caps] (.sl 4 ((sing kind w f mine).map viav)) := by
 have hlm : (mine.map In).length = mine.length := by simp
 refine fn_run (T := tab) Tryz.func193 rfl Tryz.ntmps193 rfl Tryz.results193 (fun _ => ?_)
 repeat' ((conv => whnf) <;> (first | refine zM ?_ | refine zW ?_ | intro _ | exact zF | refine Fin.pure ?_ | refine Br.tt ?_ | refine Br.ff ?_ | (refine Br.mk (fun h => ?_) (fun h => ?_) <;> (try simp only [sh] at h) <;> try first | (exfalso; omega) | exact absurd trivial h | (simp at h; done)) | refine zA ?_ | refine zN ?_ | refine zO ?_ | refine zP ?_ | refine zB ?_ | refine lB ?_ | refine lBA ?_ | refine rA ?_ | refine r1 ?_ | refine zK ?_ | refine s1 ?_ | refine sA ?_ | refine zC ?_ | fail))
 refine CK.nilrow 68 4 ?_
 (conv => whnf); refine CK.loopK [7, 9, 13, 14, 15, 16, 17, 18, 19, 20, 21, 22, 23, 24, 25, 26, 27, 28] (σ := Nat × Value) (fun s => s.1 ≤ mine.length) (fun ⟨k, v⟩ => [(13, I k), (7, .v v)]) (fun ⟨k, v⟩ => [.row v 68 4 0 false ((sing kind w f (mine.take k)).map viav)]) _ (fun s => mine.length - s.1) (0, .slice none 0 0) (Nat.zero_le _) Qy (List.Sublist.refl _) ?_
 conv => whnf
 rintro ⟨k, v⟩ i1
 simp only at i1
 by_cases hk : k < mine.length
 ·have hst := sing_take (kind := kind) (w := w) (f := f) hk
  have hsl := sing_len kind w f (mine.take k)
  rw [List.length_take] at hsl
  have c1 := hf _ (getD_mem hk)
  repeat' ((conv => whnf) <;> (first | (refine Nxt.of ((k + 1, _)) [7, 9, 13, 14, 15, 16, 17, 18, 19, 20, 21, 22, 23, 24, 25, 26, 27, 28] Qr Qr Qr ?_ ?_ Qy ?_ <;> (try dsimp only) <;> (try omega)) | refine LK.callC hent rfl (Sb.refl _) rfl (SbL.refl _) c1 ?_ | refine zM ?_ | refine zW ?_ | intro _ | exact zF | refine Fin.pure ?_ | refine Br.tt ?_ | refine Br.ff ?_ | (refine Br.mk (fun h => ?_) (fun h => ?_) <;> (try simp only [sh] at h) <;> try first | (exfalso; omega) | exact absurd trivial h | (simp at h; done)) | refine zA ?_ | refine zN ?_ | refine zO ?_ | refine zP ?_ | refine zB ?_ | refine lB ?_ | refine lBA ?_ | refine rA ?_ | refine r1 ?_ | refine nR ?_ | refine iR ?_ | refine lR ?_ | refine lR0 ?_ | refine lRA ?_ | refine zK ?_ | refine s1 ?_ | refine sA ?_ | refine LK.bsl rfl rfl rfl rfl ?_ | (refine LK.frzR 0 rfl ?_ <;> refine pF ?_) | refine pA ?_ | refine sR ?_ | refine zC ?_ | fail))
  ·rw [hst, if_pos (by assumption), List.map_append]; exact Qs
  ·rw [hst, if_neg (by simp_all), List.append_nil]; exact Qs
 ·have e : mine.take k = mine := List.take_of_length_le (by omega)
  repeat' ((conv => whnf) <;> (first | refine zM ?_ | refine zW ?_ | intro _ | exact zF | refine Br.tt ?_ | refine Br.ff ?_ | (refine Br.mk (fun h => ?_) (fun h => ?_) <;> (try simp only [sh] at h) <;> try first | (exfalso; omega) | exact absurd trivial h | (simp at h; done)) | refine zA ?_ | refine zN ?_ | refine zO ?_ | refine zP ?_ | refine zB ?_ | refine lB ?_ | refine lBA ?_ | refine rA ?_ | refine r1 ?_ | refine nR ?_ | refine iR ?_ | refine lR ?_ | refine lR0 ?_ | refine lRA ?_ | refine zK ?_ | refine s1 ?_ | refine sA ?_ | refine LK.bsl rfl rfl rfl rfl ?_ | (refine LK.frzR 0 rfl ?_ <;> refine pF ?_) | refine pA ?_ | refine sR ?_ | refine zC ?_ | fail))
  conv => whnf
  dsimp only
  rw [e]
  refine Fin.frzR 0 rfl ?_
  exact Fin.seeP Qz
set_option maxHeartbeats 4000000 in
theorem oSkill1_ok (p : Pl) (w : Nat) (mine : List Nat) (h : MineOk p w mine) (d : Nat) (hd : d ∈ mine) : FnA Tryz.prog 194 ([In d] ++ [.fp (tcs p w mine) 0, .fp [I (p.workers.getD w default).skill] 0]) (B (skB (p.workers.getD w default) (p.duties.getD d default))) := by
 have h1 := h.m d hd
 have h2 := h.s.du
 have hld : (p.duties.map duav).length = p.duties.length := by simp
 have h3 := h.du hd
 have h4 := (wkOk_iff.1 h.wk).1
 unfold dutyOk at h3
 have h5 := duB_bd (Bool.and_eq_true_iff.1 h3).1
 unfold inB at h4
 simp only [decide_eq_true_eq] at h4
 refine fn_run (T := tab) Tryz.func194 rfl Tryz.ntmps194 rfl Tryz.results194 (fun _ => ?_)
 repeat' ((conv => whnf) <;> (first | refine Ask.of (Gr.andNotI rfl rfl (by omega) (by omega)) ?_ | refine zM ?_ | refine zW ?_ | intro _ | exact zF | refine Fin.pure ?_ | refine Br.tt ?_ | refine Br.ff ?_ | (refine Br.mk (fun h => ?_) (fun h => ?_) <;> (try simp only [sh] at h) <;> try first | (exfalso; omega) | exact absurd trivial h | (simp at h; done)) | refine zA ?_ | refine zN ?_ | refine zO ?_ | refine zP ?_ | refine zB ?_ | refine lB ?_ | refine lBA ?_ | refine rA ?_ | refine r1 ?_ | refine zK ?_ | refine s1 ?_ | refine sA ?_ | refine zC ?_ | fail))
 refine congrArg B ?_
 unfold skB
 rw [Bool.eq_iff_iff, decide_eq_true_eq, decide_eq_true_eq]
 omega
theorem oAway1_ok (fs : List Bool) (d : Nat) (h1 : d < fs.length) : FnA Tryz.prog 196 ([In d] ++ [.fp [.sl 1 (fs.map B)] 0]) (B (fs.getD d default)) := by
 have hld : (fs.map B).length = fs.length := by simp
 refine fn_run (T := tab) Tryz.func196 rfl Tryz.ntmps196 rfl Tryz.results196 (fun _ => ?_)
 repeat' ((conv => whnf) <;> (first | refine zM ?_ | refine zW ?_ | intro _ | exact zF | refine Fin.pure ?_ | refine Br.tt ?_ | refine Br.ff ?_ | (refine Br.mk (fun h => ?_) (fun h => ?_) <;> (try simp only [sh] at h) <;> try first | (exfalso; omega) | exact absurd trivial h | (simp at h; done)) | refine zA ?_ | refine zN ?_ | refine zO ?_ | refine zP ?_ | refine zB ?_ | refine lB ?_ | refine lBA ?_ | refine rA ?_ | refine r1 ?_ | refine zK ?_ | refine s1 ?_ | refine sA ?_ | refine zC ?_ | fail))
theorem oNight1_ok (p : Pl) (w : Nat) (mine : List Nat) (h : MineOk p w mine) (d : Nat) (hd : d ∈ mine) : FnA Tryz.prog 206 ([In d] ++ [.fp (tcs p w mine) 0]) (B (niB p (p.duties.getD d default))) := by
 have h1 := h.m d hd
 have h2 := h.s.du
 have hld : (p.duties.map fun d => I (nightD p d)).length = p.duties.length := by simp
 refine fn_run (T := tab) Tryz.func206 rfl Tryz.ntmps206 rfl Tryz.results206 (fun _ => ?_)
 repeat' ((conv => whnf) <;> (first | refine zM ?_ | refine zW ?_ | intro _ | exact zF | refine Fin.pure ?_ | refine Br.tt ?_ | refine Br.ff ?_ | (refine Br.mk (fun h => ?_) (fun h => ?_) <;> (try simp only [sh] at h) <;> try first | (exfalso; omega) | exact absurd trivial h | (simp at h; done)) | refine zA ?_ | refine zN ?_ | refine zO ?_ | refine zP ?_ | refine zB ?_ | refine lB ?_ | refine lBA ?_ | refine rA ?_ | refine r1 ?_ | refine zK ?_ | refine s1 ?_ | refine sA ?_ | refine zC ?_ | fail))
theorem oneI : OneT Tryz.prog 3 := ⟨⟨_, Tryz.underlying3, rfl⟩, by kernel_rfl⟩
theorem oneBo : OneT Tryz.prog 4 := ⟨⟨_, Tryz.underlying4, rfl⟩, by kernel_rfl⟩
theorem fldSk : FldV Tryz.prog 75 1 1 := ⟨_, _, Tryz.underlying75, rfl, rfl, oneI⟩
theorem fldMi : FldV Tryz.prog 75 2 2 := ⟨_, _, Tryz.underlying75, rfl, rfl, oneBo⟩
theorem oSkill_ok (p : Pl) (w : Nat) (mine : List Nat) (h : MineOk p w mine) : FnE Tryz.prog 191 [.agg [], .agg (tcs p w mine)] (Fnd (sing 1 w (fun d => skB (p.workers.getD w default) (p.duties.getD d default)) mine)) := by
 have c1 := oWho_ok p w mine h
 have c2 := oSingle_ok p w mine 1 194 [.fp (tcs p w mine) 0, .fp [I (p.workers.getD w default).skill] 0] _ h.l ent194 (oSkill1_ok p w mine h)
 have hl := sing_len 1 w (fun d => skB (p.workers.getD w default) (p.duties.getD d default)) mine
 have hm := h.l
 refine fn_run (T := tab) Tryz.func191 rfl Tryz.ntmps191 rfl Tryz.results191 (fun _ => ?_)
 repeat' ((conv => whnf) <;> (first | (refine LK.frzB 0 rfl ?_ <;> refine LK.frzB 1 rfl ?_ <;> refine LK.callA ent193 c2 rfl rfl Ql ?_) | refine Ask.of (Gr.fieldV fldSk rfl rfl) ?_ | refine zM ?_ | refine zW ?_ | intro _ | exact zF | refine Br.tt ?_ | refine Br.ff ?_ | (refine Br.mk (fun h => ?_) (fun h => ?_) <;> (try simp only [sh] at h) <;> try first | (exfalso; omega) | exact absurd trivial h | (simp at h; done)) | refine zA ?_ | refine zN ?_ | refine zO ?_ | refine zP ?_ | refine zB ?_ | refine zL ent192 c1 ?_ | refine zG ent192 (fun h => c1) ?_ | refine lB ?_ | refine lBA ?_ | refine rA ?_ | refine r1 ?_ | refine zK ?_ | refine s1 ?_ | refine sA ?_ | refine zC ?_ | fail))
 conv => whnf
 exact .out [] (List.nil_sublist _) ⟨rfl, _, rfl, fun _ => Iff.rfl, by omega, sing_nodup _ _ _ h.n⟩
theorem oAway_ok (p : Pl) (w : Nat) (mine : List Nat) (h : MineOk p w mine) : FnE Tryz.prog 195 [.agg [], .agg (tcs p w mine)] (Fnd (sing 2 w (fun d => awB (p.workers.getD w default) (p.duties.getD d default)) mine)) := by
 have hld : (p.duties.map fun d => awB (p.workers.getD w default) d).length = p.duties.length := by simp
 have c2 := oSingle_ok p w mine 2 196 [.fp [.sl 1 ((p.duties.map fun d => awB (p.workers.getD w default) d).map B)] 0] (fun d => awB (p.workers.getD w default) (p.duties.getD d default)) h.l ent196 (fun d hd => by
  have h1 := h.m d hd
  have := oAway1_ok (p.duties.map fun d => awB (p.workers.getD w default) d) d (by rw [hld]; exact h1)
  have e : (p.duties.map fun d => awB (p.workers.getD w default) d).getD d default = awB (p.workers.getD w default) (p.duties.getD d default) := by simp [List.getD, h1]
  rwa [e] at this)
 have hl := sing_len 2 w (fun d => awB (p.workers.getD w default) (p.duties.getD d default)) mine
 have hm := h.l
 have h1 := h.w
 have h2 := h.s.wk
 have hlw : (p.workers.map fun w => AV.sl 1 (p.duties.map fun d => B (awB w d))).length = p.workers.length := by simp
 rw [List.map_map] at c2
 refine fn_run (T := tab) Tryz.func195 rfl Tryz.ntmps195 rfl Tryz.results195 (fun _ => ?_)
 repeat' ((conv => whnf) <;> (first | (refine LK.frzB 0 rfl ?_ <;> refine LK.callA ent193 c2 rfl rfl Ql ?_) | refine CK.anyK (id := 1) [0, 1, 2, 3, 4, 5, 6, 7, 8] [9, 10] _ (List.Sublist.refl _) Qk ?_ | refine zM ?_ | refine zW ?_ | intro _ | exact zF | refine Br.tt ?_ | refine Br.ff ?_ | (refine Br.mk (fun h => ?_) (fun h => ?_) <;> (try simp only [sh] at h) <;> try first | (exfalso; omega) | exact absurd trivial h | (simp at h; done)) | refine zA ?_ | refine zN ?_ | refine zO ?_ | refine zP ?_ | refine zB ?_ | refine lB ?_ | refine lBA ?_ | refine rA ?_ | refine r1 ?_ | refine zK ?_ | refine s1 ?_ | refine sA ?_ | refine Kx.nil ?_ | refine Kx.stp rfl rfl Qs ?_ | refine kA ?_ | (refine Kx.frzR 0 rfl ?_ <;> refine kF ?_) | refine kP ?_ | refine k1 ?_ | refine kB ?_ | refine kL ?_ | refine zC ?_ | fail))
 conv => whnf
 exact .out [] (List.nil_sublist _) ⟨rfl, _, rfl, fun _ => Iff.rfl, by omega, sing_nodup _ _ _ h.n⟩
theorem oNight_ok (p : Pl) (w : Nat) (mine : List Nat) (ho : MineOk p w mine) : FnE Tryz.prog 205 [.agg [], .agg (tcs p w mine)] (Fnd (if (p.workers.getD w default).minor then sing 5 w (fun d => niB p (p.duties.getD d default)) mine else [])) := by
 have c1 := oWho_ok p w mine ho
 have c2 := oSingle_ok p w mine 5 206 [.fp (tcs p w mine) 0] (fun d => niB p (p.duties.getD d default)) ho.l ent206 (oNight1_ok p w mine ho)
 have hl := sing_len 5 w (fun d => niB p (p.duties.getD d default)) mine
 have hm := ho.l
 refine fn_run (T := tab) Tryz.func205 rfl Tryz.ntmps205 rfl Tryz.results205 (fun _ => ?_)
 repeat' ((conv => whnf) <;> (first | (refine LK.frzB 0 rfl ?_ <;> refine LK.callA ent193 c2 rfl rfl Ql ?_) | refine Ask.of (Gr.fieldV fldMi rfl rfl) ?_ | refine zM ?_ | refine zW ?_ | intro _ | exact zF | refine Br.tt ?_ | refine Br.ff ?_ | (refine Br.mk (fun h => ?_) (fun h => ?_) <;> (try simp only [sh] at h) <;> try first | (exfalso; omega) | exact absurd trivial h | (simp at h; done)) | refine zA ?_ | refine zN ?_ | refine zO ?_ | refine zP ?_ | refine zB ?_ | refine zL ent192 c1 ?_ | refine zG ent192 (fun h => c1) ?_ | refine lB ?_ | refine lBA ?_ | refine rA ?_ | refine r1 ?_ | refine zK ?_ | refine s1 ?_ | refine sA ?_ | refine zC ?_ | fail))
 ·conv => whnf
  refine Fin.see (b := .sl 4 []) Sb.nil ?_
  exact .out [] (List.nil_sublist _) ⟨rfl, [], rfl, fun v => by rw [h]; exact Iff.rfl, by simp, by simp⟩
 ·conv => whnf
  exact .out [] (List.nil_sublist _) ⟨rfl, _, rfl, fun v => by rw [if_pos h], by omega, sing_nodup _ _ _ ho.n⟩
theorem drop_cons {l : List Nat} {k : Nat} (h : k < l.length) : l.drop k = l.getD k default :: l.drop (k + 1) := by
 rw [List.drop_eq_getElem_cons h, getD_at h]
set_option maxRecDepth 4000 in
set_option maxHeartbeats 4000000 in
theorem oRest_ok (p : Pl) (w : Nat) (mine : List Nat) (h : MineOk p w mine) : FnE Tryz.prog 197 [.agg [], .agg (tcs p w mine)] (Fnd (restL p w mine)) := by
 have hm := h.l
 have h2 := h.s.du
 have hlm : (mine.map In).length = mine.length := by simp
 have hld : (p.duties.map duav).length = p.duties.length := by simp
 refine fn_run (T := tab) Tryz.func197 rfl Tryz.ntmps197 rfl Tryz.results197 (fun _ => ?_)
 repeat' ((conv => whnf) <;> (first | refine zM ?_ | refine zW ?_ | intro _ | exact zF | refine Fin.pure ?_ | refine Br.tt ?_ | refine Br.ff ?_ | (refine Br.mk (fun h => ?_) (fun h => ?_) <;> (try simp only [sh] at h) <;> try first | (exfalso; omega) | exact absurd trivial h | (simp at h; done)) | refine zA ?_ | refine zN ?_ | refine zO ?_ | refine zP ?_ | refine zB ?_ | refine lB ?_ | refine lBA ?_ | refine rA ?_ | refine r1 ?_ | refine zK ?_ | refine s1 ?_ | refine sA ?_ | refine zC ?_ | fail))
 refine CK.nilrow 68 4 ?_
 (conv => whnf); refine CK.loopK [5, 7, 8, 10, 19, 20, 21, 22, 23, 24, 25, 26, 27, 28, 29, 30, 31, 32, 33, 34, 35, 36, 37, 38, 39, 40, 41, 42, 43, 44, 45, 46, 47, 48, 49, 50, 51, 52, 53, 54, 55, 56, 57, 58] (σ := Nat × Value × List Vi) (fun s => s.1 ≤ mine.length ∧ s.2.2.length ≤ 1000 * s.1 ∧ s.2.2 ++ restL p w (mine.drop s.1) = restL p w mine) (fun ⟨k, v, _⟩ => [(19, I k), (5, .v v)]) (fun ⟨_, v, acc⟩ => [.row v 68 4 0 false (acc.map viav)]) _ (fun s => mine.length - s.1) (0, .slice none 0 0, []) ⟨Nat.zero_le _, by simp, by simp⟩ Qy (List.Sublist.refl _) ?_
 conv => whnf
 rintro ⟨k, v, acc⟩ ⟨i1, i2, i3⟩
 simp only at i1 i2 i3
 by_cases hk : k < mine.length
 ·have hdl : (mine.drop (k + 1)).length = mine.length - (k + 1) := by simp
  rw [drop_cons hk, restL] at i3
  have hk1 := h.m _ (getD_mem hk)
  have hdm : ((mine.map In).drop (k + 1)).length = mine.length - (k + 1) := by simp
  have htn : ((k : Int) + 1).toNat = k + 1 := by omega
  have hsee : ∀ L, Sb L (.sl 1 ((mine.map In).drop ((k : Int) + 1).toNat)) (.sl 1 ((mine.drop (k + 1)).map In)) := fun L => by rw [htn, ← List.map_drop]; exact Sb.refl _
  have hdn : ((mine.map In).drop ((k : Int) + 1).toNat).length = mine.length - (k + 1) := by rw [htn]; exact hdm
  have hmd : ∀ d ∈ mine.drop (k + 1), d < p.duties.length := fun d hd => h.m d (List.mem_of_mem_drop hd)
  have hdl2 : ((mine.drop (k + 1)).map In).length = (mine.drop (k + 1)).length := by simp
  generalize hml : mine.drop (k + 1) = ml at *
  repeat' ((conv => whnf) <;> (first | refine zM ?_ | refine zW ?_ | intro _ | exact zF | refine Fin.pure ?_ | refine Br.tt ?_ | refine Br.ff ?_ | (refine Br.mk (fun h => ?_) (fun h => ?_) <;> (try simp only [sh] at h) <;> try first | (exfalso; omega) | exact absurd trivial h | (simp at h; done)) | refine zA ?_ | refine zN ?_ | refine zO ?_ | refine zP ?_ | refine zB ?_ | refine lB ?_ | refine lBA ?_ | refine rA ?_ | refine r1 ?_ | refine nR ?_ | refine iR ?_ | refine lR ?_ | refine lR0 ?_ | refine lRA ?_ | refine zK ?_ | refine s1 ?_ | refine sA ?_ | refine LK.bsl rfl rfl rfl rfl ?_ | (refine LK.frzR 0 rfl ?_ <;> refine pF ?_) | refine pA ?_ | refine sR ?_ | refine zC ?_ | fail))
  conv => whnf
  refine CK.see 28 rfl (hsee _) ?_
  (conv => whnf); refine CK.loopK [5, 10, 30, 31, 32, 33, 34, 35, 36, 37, 38, 39, 40, 41, 42, 43, 44, 45, 46, 47, 48, 49, 50, 51, 52, 53, 54, 55, 56, 57] (σ := Nat × Value) (fun s => s.1 ≤ ml.length) (fun ⟨j, v⟩ => [(30, I j), (5, .v v)]) (fun ⟨j, v⟩ => [.row v 68 4 0 false ((acc ++ ((ml.take j).filter (restB p (mine.getD k default))).map fun e : Nat => (⟨3, w, (mine.getD k default), e⟩ : Vi)).map viav)]) _ (fun s => ml.length - s.1) (0, v) (Nat.zero_le _) Qy (by simp only [List.take_zero, List.filter_nil, List.map_nil, List.append_nil]; exact Qs) ?_
  conv => whnf
  rintro ⟨j, v1⟩ j1
  simp only at j1
  by_cases hj : j < ml.length
  ·have c1 := hRest_ok (p.duties.getD (mine.getD k default) default) (p.duties.getD (ml.getD j default) default)
   have hmj := hmd _ (getD_mem hj)
   have hfl : ((ml.take j).filter (restB p (mine.getD k default))).length ≤ j := Nat.le_trans (List.length_filter_le _ _) (by rw [List.length_take]; omega)
   have hst : ((ml.take (j + 1)).filter (restB p (mine.getD k default))).map (fun e : Nat => (⟨3, w, (mine.getD k default), e⟩ : Vi)) = ((ml.take j).filter (restB p (mine.getD k default))).map (fun e : Nat => (⟨3, w, (mine.getD k default), e⟩ : Vi)) ++ if restB p (mine.getD k default) (ml.getD j default) = true then [⟨3, w, (mine.getD k default), ml.getD j default⟩] else [] := by
    rw [List.take_succ_eq_append_getElem hj, List.filter_append, List.map_append, getD_at hj, List.filter_cons]
    split <;> rfl
   repeat' ((conv => whnf) <;> (first | (refine Nxt.of ((j + 1, _)) [5, 10, 30, 31, 32, 33, 34, 35, 36, 37, 38, 39, 40, 41, 42, 43, 44, 45, 46, 47, 48, 49, 50, 51, 52, 53, 54, 55, 56, 57] Qr Qr Qr ?_ ?_ Qy ?_ <;> (try dsimp only) <;> (try omega)) | refine zM ?_ | refine zW ?_ | intro _ | exact zF | refine Fin.pure ?_ | refine Br.tt ?_ | refine Br.ff ?_ | (refine Br.mk (fun h => ?_) (fun h => ?_) <;> (try simp only [sh] at h) <;> try first | (exfalso; omega) | exact absurd trivial h | (simp at h; done)) | refine zA ?_ | refine zN ?_ | refine zO ?_ | refine zP ?_ | refine zB ?_ | refine zL ent198 c1 ?_ | refine zG ent198 (fun h => c1) ?_ | refine lB ?_ | refine lBA ?_ | refine rA ?_ | refine r1 ?_ | refine nR ?_ | refine iR ?_ | refine lR ?_ | refine lR0 ?_ | refine lRA ?_ | refine zK ?_ | refine s1 ?_ | refine sA ?_ | refine LK.bsl rfl rfl rfl rfl ?_ | (refine LK.frzR 0 rfl ?_ <;> refine pF ?_) | refine pA ?_ | refine sR ?_ | refine zC ?_ | fail))
   ·rw [hst, if_pos (show restB p (mine.getD k default) (ml.getD j default) = true from decide_eq_true (by assumption)), ← List.append_assoc, List.map_append (l₁ := acc ++ _)]; exact Qs
   ·rw [hst, if_neg (by unfold restB; simp only [decide_eq_true_eq]; omega), List.append_nil]; exact Qs
  ·have hfl : (ml.filter (restB p (mine.getD k default))).length ≤ 1000 := Nat.le_trans (List.length_filter_le _ _) (by omega)
   repeat' ((conv => whnf) <;> (first | (refine Nxt.of ((k + 1, v1, acc ++ (ml.filter (restB p (mine.getD k default))).map fun e : Nat => (⟨3, w, (mine.getD k default), e⟩ : Vi))) [5, 7, 8, 10, 19, 20, 21, 22, 23, 24, 25, 26, 27, 28, 29, 30, 31, 32, 33, 34, 35, 36, 37, 38, 39, 40, 41, 42, 43, 44, 45, 46, 47, 48, 49, 50, 51, 52, 53, 54, 55, 56, 57, 58] Qr Qr Qr ?_ ?_ Qy ?_ <;> (try dsimp only) <;> (try omega)) | refine zM ?_ | refine zW ?_ | intro _ | exact zF | refine Br.tt ?_ | refine Br.ff ?_ | (refine Br.mk (fun h => ?_) (fun h => ?_) <;> (try simp only [sh] at h) <;> try first | (exfalso; omega) | exact absurd trivial h | (simp at h; done)) | refine zA ?_ | refine zN ?_ | refine zO ?_ | refine zP ?_ | refine zB ?_ | refine lB ?_ | refine lBA ?_ | refine rA ?_ | refine r1 ?_ | refine nR ?_ | refine iR ?_ | refine lR ?_ | refine lR0 ?_ | refine lRA ?_ | refine zK ?_ | refine s1 ?_ | refine sA ?_ | refine LK.bsl rfl rfl rfl rfl ?_ | (refine LK.frzR 0 rfl ?_ <;> refine pF ?_) | refine pA ?_ | refine sR ?_ | refine zC ?_ | fail))
   ·refine ⟨hk, by rw [List.length_append, List.length_map]; omega, ?_⟩
    rw [hml, List.append_assoc]; exact i3
   ·have e : ml.take j = ml := List.take_of_length_le (by omega)
    rw [e]; exact Qs
 ·rw [List.drop_eq_nil_of_le (by omega), restL, List.append_nil] at i3
  subst i3
  have i4 := (restL_nodup (p := p) (w := w) h.n).1
  repeat' ((conv => whnf) <;> (first | refine zM ?_ | refine zW ?_ | intro _ | exact zF | refine Br.tt ?_ | refine Br.ff ?_ | (refine Br.mk (fun h => ?_) (fun h => ?_) <;> (try simp only [sh] at h) <;> try first | (exfalso; omega) | exact absurd trivial h | (simp at h; done)) | refine zA ?_ | refine zN ?_ | refine zO ?_ | refine zP ?_ | refine zB ?_ | refine lB ?_ | refine lBA ?_ | refine rA ?_ | refine r1 ?_ | refine nR ?_ | refine iR ?_ | refine lR ?_ | refine lR0 ?_ | refine lRA ?_ | refine zK ?_ | refine s1 ?_ | refine sA ?_ | refine LK.bsl rfl rfl rfl rfl ?_ | (refine LK.frzR 0 rfl ?_ <;> refine pF ?_) | refine pA ?_ | refine sR ?_ | refine zC ?_ | fail))
  conv => whnf
  refine Fin.frzR 0 rfl ?_
  refine Fin.see (Sb.row 0 rfl) ?_
  exact .out [] (List.nil_sublist _) ⟨rfl, _, rfl, fun _ => Iff.rfl, by omega, i4⟩
end Go.Proofs.YtjfnkmlnbaianaaGreat
