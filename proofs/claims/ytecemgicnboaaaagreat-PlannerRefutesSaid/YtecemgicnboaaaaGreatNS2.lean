/-
  Walks: package planner: extend and improve.
  Conditions: those of each theorem.
-/
import Derived.Test.YtecemgicnboaaaaGreatNS1
namespace Go.Proofs.YtecemgicnboaaaaGreat
open Go.E2 Go.Wage
abbrev impV (g : Nat) : Value := .func (.func 32) #[.pointer (some ⟨g, 0, none⟩)] #[]
abbrev Bf (g : Nat) (zs : List Int) : Ent := .blk g 3 false (zs.map I)
abbrev ImpR (p : Pl) (gs gb : Nat) (d : Nat) (pre : List Int) (R : List Ent) (r : PS × Int) (a : AV) (a0 : AV) (L' : List Ent) : Prop := ∃ zs, a = a0 ∧ zs.length = p.duties.length ∧ zs.take d = pre ∧ L' = Se gs p (impV gs) r.1.fuel r.1.bs (.slice none 0 0) :: Bf gb zs :: R
abbrev ImpOk (p : Pl) (m : Nat) : Prop := ∀ (pre : List Int) (d : Nat) (c : Int) (s : PS) (zs : List Int) (c0 : Ctx) (R : List Ent) (gs gb : Nat), pre.length = d → PreOk p m pre → (0 ≤ c ∧ c ≤ 1440000000 * d) → OkS s → zs.length = p.duties.length → zs.take d = pre →
  FnL Tryz.prog c0 32 [pt gs, .v (Buf gb d p.duties.length), I c] (Se gs p (impV gs) s.fuel s.bs (.slice none 0 0) :: Bf gb zs :: R) fun a L' => ImpR p gs gb d pre R (impP p m pre c s) a (.tup [I 0, I (impP p m pre c s).2]) L'
theorem pImprove1_ok (x : Int) : FnA Tryz.prog 69 [I x] (.tup []) := by
  refine fn_run (T := tab) Tryz.func69 rfl Tryz.ntmps69 rfl Tryz.results69 (fun _ => ?_)
  repeat' ((conv => whnf) <;> (first | refine zM ?_ | refine zW ?_ | intro _ | exact zF | refine Fin.pure ?_ | refine Br.tt ?_ | refine Br.ff ?_ | (refine Br.mk (fun h => ?_) (fun h => ?_) <;> (try simp only [sh] at h) <;> try first | (exfalso; omega) | exact absurd trivial h | (simp at h; done)) | refine zA ?_ | refine zN ?_ | refine zO ?_ | refine zP ?_ | refine zB ?_ | refine zK ?_ | refine zC ?_ | fail))
abbrev stpI (p : Pl) (k : Nat) (pre : List Int) (c : Int) : Nat → PS → PS × Int := fun (w : Nat) s => impP p k (pre ++ [(w : Int)]) (c + wageP p w * minD (p.duties.getD pre.length default)) s
theorem take_dn {z pre : List Int} {w : Int} {d : Nat} (h : z.take (d + 1) = pre ++ [w]) (hd : pre.length = d) : z.take d = pre := by
  have := congrArg (List.take d) h
  rwa [List.take_take, Nat.min_eq_left (by omega), List.take_left' hd] at this
set_option maxRecDepth 4000 in
set_option maxHeartbeats 8000000 in
theorem pExtI_ok (p : Pl) (hs : Small p) (hv : validP p = true) (k : Nat) (ih : ImpOk p k) (pre : List Int) (d : Nat) (c : Int) (s : PS) (zs : List Int) (c0 : Ctx) (R : List Ent) (gs gb : Nat) (hd : pre.length = d) (hp : PreOk p (k + 1) pre) (hc : 0 ≤ c ∧ c ≤ 1440000000 * d) (ho : OkS s) (hz : zs.length = p.duties.length) (ht : zs.take d = pre) :
    FnL Tryz.prog c0 68 [pt gs, .v (Buf gb d p.duties.length), I c, .v (.func (.func 69) #[] #[])] (Se gs p (impV gs) s.fuel s.bs (.slice none 0 0) :: Bf gb zs :: R) fun a L' => ImpR p gs gb d pre R (extP (stpI p k pre c) p.workers.length 0 s) a (I (extP (stpI p k pre c) p.workers.length 0 s).2) L' := by
  have hsd := hs.du
  have hsw := hs.wk
  have h24 := (validP_iff.1 hv).2.1
  have hl := hp.l
  have hld : (p.duties.map duav).length = p.duties.length := by simp
  have hlw : (p.workers.map wkav).length = p.workers.length := by simp
  refine fnL_run (T := tab) Tryz.func68 rfl Tryz.ntmps68 rfl Tryz.results68 (fun _ hw0 => ?_)
  repeat' ((conv => whnf) <;> (first | refine bN (T := tab) ?_ | refine zM ?_ | refine zW ?_ | intro _ | exact zF | refine Br.tt ?_ | refine Br.ff ?_ | (refine Br.mk (fun h => ?_) (fun h => ?_) <;> (try simp only [sh] at h) <;> try first | (exfalso; omega) | exact absurd trivial h | (simp at h; done)) | refine zA ?_ | refine zN ?_ | refine zO ?_ | refine zP ?_ | refine zB ?_ | refine lB ?_ | refine lBA ?_ | refine zK ?_ | refine s1 ?_ | refine sA ?_ | refine zC ?_ | fail))
  (conv => whnf); refine CK.loopK [8, 10, 11, 12, 13, 14, 23, 24, 25, 26, 27, 28, 29, 30, 31, 32, 33, 34, 35, 36, 37, 38, 39, 40, 41, 42, 43, 44, 45, 46, 47, 48, 49, 50, 51, 52, 53, 54, 55, 56, 57, 58, 59, 60, 61, 62, 63, 64, 65] (σ := Nat × PS × List Int) (fun q => q.1 ≤ p.workers.length ∧ OkS q.2.1 ∧ (q.2.2.length = p.duties.length ∧ q.2.2.take d = pre) ∧ extP (stpI p k pre c) p.workers.length 0 s = extP (stpI p k pre c) (p.workers.length - q.1) q.1 q.2.1) (fun ⟨w, _, _⟩ => [(23, I w)]) (fun ⟨_, s, zs⟩ => [Se gs p (impV gs) s.fuel s.bs (.slice none 0 0), Bf gb zs]) _ (fun q => p.workers.length - q.1) (0, s, zs) ⟨Nat.zero_le _, ho, ⟨hz, ht⟩, rfl⟩ Qy (List.Sublist.refl _) ?_
  conv => whnf
  rintro ⟨w, s1, z1⟩ ⟨i1, i2, ⟨i3, i4⟩, i5⟩
  simp only at i1 i2 i3 i4 i5
  by_cases hw : w < p.workers.length
  · have hdl : d < p.duties.length := by omega
    have hm := min_bd hv _ (getD_mem hdl)
    have c1 := pMinutes_ok (p.duties.getD d default) (by omega)
    have hwg := wage_bdP hv _ (getD_mem hw)
    have hmul := mul_bd hwg hm
    have hset : (z1.map I).set d (I (w : Int)) = (z1.set d (w : Int)).map I := by rw [List.map_set]
    have hz1 : (z1.map I).length = p.duties.length := by simp [i3]
    have ht1 : (z1.set d (w : Int)).take (d + 1) = pre ++ [(w : Int)] := by
      rw [List.take_set, take_snocP (by omega), i4, List.set_append_right _ _ (by omega), hd, Nat.sub_self]
      rfl
    have hpre : PreOk p k (pre ++ [(w : Int)]) := ⟨by simp; omega, fun x hx => by
      rcases List.mem_append.1 hx with hx | hx
      · exact hp.w x hx
      · rw [List.mem_singleton] at hx; omega⟩
    have hV := fun c0 R => ih (pre ++ [(w : Int)]) (d + 1) (c + (p.workers.getD w default).wage * minD (p.duties.getD d default)) s1 (z1.set d (w : Int)) c0 R gs gb (by simp [hd]) hpre (by omega) i2 (by rw [List.length_set, i3]) ht1
    have hio := impP_ok (min_bd hv) (wage_bdP hv) k (pre ++ [(w : Int)]) (c + (p.workers.getD w default).wage * minD (p.duties.getD d default)) s1 (by simp; omega) (by omega) (by rw [List.length_append, List.length_cons, List.length_nil]; omega) i2
    have ew : p.workers.length - w = (p.workers.length - (w + 1)) + 1 := by omega
    rw [ew, extP] at i5
    have eF : stpI p k pre c w s1 = impP p k (pre ++ [(w : Int)]) (c + (p.workers.getD w default).wage * minD (p.duties.getD d default)) s1 := by unfold stpI wageP; rw [hd]
    rw [eF] at i5
    generalize hr : impP p k (pre ++ [(w : Int)]) (c + (p.workers.getD w default).wage * minD (p.duties.getD d default)) s1 = r at *
    repeat' ((conv => whnf) <;> (first | (refine LK.eff (Eff.callB (first := [.pointer (some ⟨gs, 0, none⟩)]) ent32 rfl rfl (SbL.refl _) (FnL.front 2 rfl (FnL.front 2 rfl (hV _ _)))) ?_ <;> rintro _ _ ⟨z2, rfl, h1, h2, rfl⟩) | refine CK.anyQ (T := tab) 19 20 (by exact Qk) ?_ | (refine LK.eff (Eff.appB (T := tab) (len := d) (cap := p.duties.length) 2 rfl rfl rfl rfl rfl (.refl _) rfl rfl hdl hz1) ?_ <;> rintro _ _ ⟨rfl, rfl⟩ <;> rw [hset]) | refine bS (T := tab) ?_ | refine LK.ask (bC (T := tab) ?_) | refine bN (T := tab) ?_ | refine zM ?_ | refine zW ?_ | intro _ | exact zF | refine Fin.pure ?_ | refine Br.tt ?_ | refine Br.ff ?_ | (refine Br.mk (fun h => ?_) (fun h => ?_) <;> (try simp only [sh] at h) <;> try first | (exfalso; omega) | exact absurd trivial h | (simp at h; done)) | refine zA ?_ | refine zN ?_ | refine zO ?_ | refine zP ?_ | refine zB ?_ | refine zL ent64 c1 ?_ | refine zG ent64 (fun h => c1) ?_ | refine zL ent69 (pImprove1_ok _) ?_ | refine zG ent69 (fun h => pImprove1_ok _) ?_ | refine lB ?_ | refine lBA ?_ | refine zK ?_ | refine s1 ?_ | refine sA ?_ | refine LK.gr (Gr.bslV rfl rfl rfl rfl) ?_ | refine Ask.of (Gr.bslV rfl rfl rfl rfl) ?_ | refine zC ?_ | refine zD ?_ | fail))
    · have hz2 := take_dn h2 hd
      conv => whnf
      rw [if_neg h] at i5
      rw [i5]
      exact .out (Se gs p (impV gs) r.1.fuel r.1.bs (.slice none 0 0) :: Bf gb z2 :: R) (.cons_cons _ (.cons_cons _ (.cons _ (.refl _)))) ⟨z2, rfl, h1, hz2, rfl⟩
    · have hz2 := take_dn h2 hd
      rw [if_pos h] at i5
      (conv => whnf); (refine Nxt.of ((w + 1, r.1, z2)) [8, 10, 11, 12, 13, 14, 23, 24, 25, 26, 27, 28, 29, 30, 31, 32, 33, 34, 35, 36, 37, 38, 39, 40, 41, 42, 43, 44, 45, 46, 47, 48, 49, 50, 51, 52, 53, 54, 55, 56, 57, 58, 59, 60, 61, 62, 63, 64, 65] Qr Qr Qr ?_ ?_ Qy ?_ <;> (try dsimp only) <;> (try omega))
      · exact ⟨by omega, hio h, ⟨h1, hz2⟩, i5⟩
      · exact .cons_cons _ (.cons_cons _ (.cons _ (.refl _)))
  · have ew : p.workers.length - w = 0 := by omega
    rw [ew, extP] at i5
    repeat' ((conv => whnf) <;> (first | refine zM ?_ | refine zW ?_ | intro _ | exact zF | refine Br.tt ?_ | refine Br.ff ?_ | (refine Br.mk (fun h => ?_) (fun h => ?_) <;> (try simp only [sh] at h) <;> try first | (exfalso; omega) | exact absurd trivial h | (simp at h; done)) | refine zA ?_ | refine zN ?_ | refine zO ?_ | refine zP ?_ | refine zB ?_ | refine lB ?_ | refine lBA ?_ | refine zK ?_ | refine s1 ?_ | refine sA ?_ | refine LK.gr (Gr.bslV rfl rfl rfl rfl) ?_ | refine Ask.of (Gr.bslV rfl rfl rfl rfl) ?_ | refine zC ?_ | refine zD ?_ | fail))
    conv => whnf
    rw [i5]
    exact .out (Se gs p (impV gs) s1.fuel s1.bs (.slice none 0 0) :: Bf gb z1 :: R) (.refl _) ⟨z1, rfl, i3, i4, rfl⟩
theorem one_ints (zs : List Int) : (zs.map I).all AV.one = true := by
  rw [List.all_eq_true]
  intro x hx
  obtain ⟨q, _, rfl⟩ := List.mem_map.1 hx
  rfl
theorem pClone_ok {c0 : Ctx} {R : List Ent} (e : Ent) (g d cap : Nat) (zs : List Int) (hd : d ≤ zs.length) (hm : zs.length ≤ 1000) :
    FnL Tryz.prog c0 67 [.v (Buf g d cap)] (e :: Bf g zs :: R) fun a L' => a = .sl 1 ((zs.take d).map I) ∧ L' = e :: Bf g zs :: R := by
  refine fnL_run (T := tab) Tryz.func67 rfl Tryz.ntmps67 rfl Tryz.results67 (fun _ hw0 => ?_)
  repeat' ((conv => whnf) <;> (first | (refine LK.eff (Eff.appFB (T := tab) 0 2 rfl rfl rfl rfl rfl rfl (by simpa using hd) (one_ints zs) (by simp [AV.cells]) (by simp; omega)) ?_ <;> rintro _ _ ⟨v, rfl, rfl⟩) | refine LK.gr (Gr.bufNil (T := tab) rfl rfl) ?_ | refine zM ?_ | refine zW ?_ | intro _ | exact zF | refine Br.tt ?_ | refine Br.ff ?_ | (refine Br.mk (fun h => ?_) (fun h => ?_) <;> (try simp only [sh] at h) <;> try first | (exfalso; omega) | exact absurd trivial h | (simp at h; done)) | refine zA ?_ | refine zN ?_ | refine zO ?_ | refine zP ?_ | refine zB ?_ | refine lB ?_ | refine lBA ?_ | refine nR ?_ | refine iR ?_ | refine lR ?_ | refine lR0 ?_ | refine lRA ?_ | refine zK ?_ | refine s1 ?_ | refine sA ?_ | refine LK.bsl rfl rfl rfl rfl ?_ | (refine LK.frzR 0 rfl ?_ <;> refine pF ?_) | refine pA ?_ | refine sR ?_ | refine zC ?_ | fail))
  conv => whnf
  rw [List.nil_append, ← List.map_take]
  exact .frzR 0 rfl (.see (.row 0 rfl) (.out _ (.cons _ (.refl _)) ⟨rfl, rfl⟩))
abbrev restP (p : Pl) : Nat → List Int → Int → PS → PS × Int
  | 0, pre, c, s => (⟨s.fuel, ⟨true, pre, c⟩⟩, 0)
  | k + 1, pre, c, s => extP (stpI p k pre c) p.workers.length 0 s
theorem impP_eq (p : Pl) (m : Nat) (pre : List Int) (c : Int) (s : PS) : impP p m pre c s = if s.fuel - 1 < 0 then (⟨s.fuel - 1, s.bs⟩, 201) else if (s.bs.found && decide (s.bs.cost ≤ c + lstP p pre.length)) || !cleanB p pre then (⟨s.fuel - 1, s.bs⟩, 0) else restP p m pre c ⟨s.fuel - 1, s.bs⟩ := by
  cases m <;> rfl
set_option maxRecDepth 4000 in
set_option maxHeartbeats 8000000 in
theorem pImpStep (p : Pl) (hs : Small p) (hv : validP p = true) (m : Nat) (ih : ∀ k, m = k + 1 → ImpOk p k) : ImpOk p m := by
  intro pre d c s zs c0 R gs gb hd hp hc ho hz ht
  have hsd := hs.du
  have h24 := (validP_iff.1 hv).2.1
  have hl := hp.l
  have hld : (p.duties.map duav).length = p.duties.length := by simp
  have hlst := lst_bd' hv d (by omega)
  have hcl : FnA Tryz.prog 66 [.fp (sccs p (impV gs) (s.fuel - 1) s.bs (.slice none 0 0)) 0, .sl 1 ((zs.take d).map I)] (B (cleanB p pre)) := by
    rw [ht]
    exact pClean_ok p (impV gs) (s.fuel - 1) s.bs (.slice none 0 0) pre hs hv (by omega) hp.w
  have hlat : (((List.range (p.duties.length + 1)).map (lstP p)).map I)[((d : Nat) : Int).toNat]? = some (I (lstP p d)) := by
    rw [Int.toNat_natCast, List.getElem?_map, List.getElem?_map, List.getElem?_range (by omega)]
    rfl
  have hmx : zs.length ≤ p.duties.length ∧ p.duties.length ≤ maxLen := ⟨by omega, by unfold maxLen; omega⟩
  have hcn := fun c0 => pClone_ok (c0 := c0) (R := R) (Se gs p (impV gs) (s.fuel - 1) s.bs (.slice none 0 0)) gb d p.duties.length zs (by omega) (by omega)
  have hf := ho.f
  have hco := ho.c
  have hbu := fun c0 => pBurn_ok (c := c0) (R := Bf gb zs :: R) gs p (impV gs) s.fuel s.bs (.slice none 0 0) (by omega)
  refine fnL_run (T := tab) Tryz.func32 rfl Tryz.ntmps32 rfl Tryz.results32 (fun _ hw0 => ?_)
  repeat' ((conv => whnf) <;> (first | (refine LK.callL ent65 (hbu _) rfl rfl Ql ?_ <;> rintro _ _ ⟨rfl, rfl⟩) | refine Ask.of (Gr.callF 0 1 rfl rfl (by decide) hmx ent66 hcl rfl rfl (.ptr 0 (.buf d (by omega) .nil))) ?_ | refine bN (T := tab) ?_ | refine zM ?_ | refine zW ?_ | intro _ | exact zF | refine Br.tt ?_ | refine Br.ff ?_ | (refine Br.mk (fun h => ?_) (fun h => ?_) <;> (try simp only [sh] at h) <;> try first | (exfalso; omega) | exact absurd trivial h | (simp at h; done)) | refine zA ?_ | refine zN ?_ | refine zO ?_ | refine zP ?_ | refine zB ?_ | refine lB ?_ | refine lBA ?_ | refine zK ?_ | refine s1 ?_ | refine sA ?_ | refine zC ?_ | fail))
  · conv => whnf
    rw [impP_eq, if_pos (by assumption)]
    exact .out _ (.refl _) ⟨zs, rfl, hz, ht, rfl⟩
  · rename_i h0 h
    conv => whnf
    rw [impP_eq, if_neg (by omega), if_pos (by rw [hd]; simpa using h)]
    exact .out _ (.refl _) ⟨zs, rfl, hz, ht, rfl⟩
  · rename_i h0 h1
    obtain rfl : m = 0 := by omega
    have hn : ¬((s.bs.found && decide (s.bs.cost ≤ c + lstP p pre.length)) || !cleanB p pre) = true := by rw [hd, h1.2]; rcases h1.1 with h2 | h2 <;> simp [h2]
    rw [impP_eq, if_neg (by omega), if_neg hn]
    repeat' ((conv => whnf) <;> (first | (refine LK.callL ent67 (hcn _) rfl rfl Ql ?_ <;> rintro _ _ ⟨rfl, rfl⟩) | refine zM ?_ | refine zW ?_ | intro _ | exact zF | refine Br.tt ?_ | refine Br.ff ?_ | (refine Br.mk (fun h => ?_) (fun h => ?_) <;> (try simp only [sh] at h) <;> try first | (exfalso; omega) | exact absurd trivial h | (simp at h; done)) | refine zA ?_ | refine zN ?_ | refine zO ?_ | refine zP ?_ | refine zB ?_ | refine lB ?_ | refine lBA ?_ | refine zK ?_ | refine s1 ?_ | refine sA ?_ | refine zC ?_ | fail))
    conv => whnf
    rw [ht]
    exact .out _ (.refl _) ⟨zs, rfl, hz, ht, rfl⟩
  · rename_i h0 h1
    obtain ⟨k, rfl⟩ : ∃ k, m = k + 1 := ⟨m - 1, by omega⟩
    have hn : ¬((s.bs.found && decide (s.bs.cost ≤ c + lstP p pre.length)) || !cleanB p pre) = true := by rw [hd, h1.2]; rcases h1.1 with h2 | h2 <;> simp [h2]
    have hex := fun c0 => pExtI_ok p hs hv k (ih k rfl) pre d c ⟨s.fuel - 1, s.bs⟩ zs c0 R gs gb hd hp hc ⟨⟨by simp only; omega, by simp only; omega⟩, ho.c⟩ hz ht
    rw [impP_eq, if_neg (by omega), if_neg hn]
    repeat' ((conv => whnf) <;> (first | (refine LK.callL ent68 (hex _) rfl rfl Ql ?_ <;> rintro _ _ ⟨z2, rfl, h2, h3, rfl⟩) | refine zM ?_ | refine zW ?_ | intro _ | exact zF | refine Br.tt ?_ | refine Br.ff ?_ | (refine Br.mk (fun h => ?_) (fun h => ?_) <;> (try simp only [sh] at h) <;> try first | (exfalso; omega) | exact absurd trivial h | (simp at h; done)) | refine zA ?_ | refine zN ?_ | refine zO ?_ | refine zP ?_ | refine zB ?_ | refine lB ?_ | refine lBA ?_ | refine zK ?_ | refine s1 ?_ | refine sA ?_ | refine zC ?_ | fail))
    conv => whnf
    exact .out _ (.refl _) ⟨z2, rfl, h2, h3, rfl⟩
theorem pImprove_ok (p : Pl) (hs : Small p) (hv : validP p = true) : ∀ m, ImpOk p m
  | 0 => pImpStep p hs hv 0 fun _ h => by cases h
  | m + 1 => pImpStep p hs hv (m + 1) fun k h => by
    cases h
    exact pImprove_ok p hs hv m
end Go.Proofs.YtecemgicnboaaaaGreat
