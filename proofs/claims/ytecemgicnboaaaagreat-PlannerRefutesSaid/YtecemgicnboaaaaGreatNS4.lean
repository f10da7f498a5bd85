/-
  Walks: package planner: refute and its extend.
  Conditions: those of each theorem.
-/
import Derived.Test.YtecemgicnboaaaaGreatNS3
namespace Go.Proofs.YtecemgicnboaaaaGreat
open Go.E2 Go.Wage
abbrev refV (g : Nat) : Value := .func (.func 34) #[.pointer (some ⟨g, 0, none⟩)] #[]
abbrev RefR (p : Pl) (gs gb : Nat) (b : BS) (d : Nat) (pre : List Int) (R : List Ent) (s : RS) (a : AV) (a0 : AV) (L' : List Ent) : Prop := ∃ zs A q cp, a = a0 ∧ zs.length = p.duties.length ∧ zs.take d = pre ∧ L' = Lg (.slice A q cp) s.log :: Se gs p (refV gs) s.fuel b (.slice A q cp) :: Bf gb zs :: R
abbrev RefOk (p : Pl) (b : BS) (m : Nat) : Prop := ∀ (pre : List Int) (d : Nat) (c : Int) (s : RS) (zs : List Int) (c0 : Ctx) (R : List Ent) (gs gb : Nat) (A : Option Addr) (q cp : Nat), pre.length = d → PreOk p m pre → (0 ≤ c ∧ c ≤ 1440000000 * d) → OkR s → LfP p b.cost m pre c → zs.length = p.duties.length → zs.take d = pre →
  FnL Tryz.prog c0 34 [pt gs, .v (Buf gb d p.duties.length), I c] (Lg (.slice A q cp) s.log :: Se gs p (refV gs) s.fuel b (.slice A q cp) :: Bf gb zs :: R) fun a L' => RefR p gs gb b d pre R (refP p b.cost m pre c s).1 a (.tup [I (refP p b.cost m pre c s).2.1, I (refP p b.cost m pre c s).2.2]) L'
abbrev Fr1 (v : Value) (frm : List Int) : Ent := .row v 3 1 0 false (frm.map I)
abbrev Fb1 (g : Nat) (v : Value) : Ent := .blk g 38 false [.v v]
abbrev ExtRR (p : Pl) (gs gb gf : Nat) (b : BS) (d : Nat) (pre : List Int) (R : List Ent) (r : (RS × List Int) × Int) (a : AV) (L' : List Ent) : Prop := ∃ zs A q cp, a = I r.2 ∧ zs.length = p.duties.length ∧ zs.take d = pre ∧
  ((r.2 ≠ 0 ∧ L' = Lg (.slice A q cp) r.1.1.log :: Se gs p (refV gs) r.1.1.fuel b (.slice A q cp) :: Bf gb zs :: R) ∨ (r.2 = 0 ∧ ∃ A1 q1 cp1, L' = Fr1 (.slice A1 q1 cp1) r.1.2 :: Fb1 gf (.slice A1 q1 cp1) :: Lg (.slice A q cp) r.1.1.log :: Se gs p (refV gs) r.1.1.fuel b (.slice A q cp) :: Bf gb zs :: R))
set_option maxRecDepth 4000 in
set_option maxHeartbeats 8000000 in
theorem pExtR_ok (p : Pl) (b : BS) (hs : Small p) (hv : validP p = true) (k : Nat) (ih : RefOk p b k) (pre : List Int) (d : Nat) (c : Int) (s : RS) (zs : List Int) (c0 : Ctx) (R : List Ent) (gs gb gf : Nat) (A : Option Addr) (q cp : Nat) (hd : pre.length = d) (hp : PreOk p (k + 1) pre) (hc : 0 ≤ c ∧ c ≤ 1440000000 * d) (ho : OkR s) (hz : zs.length = p.duties.length) (ht : zs.take d = pre) (hlf : ∀ w : Nat, w < p.workers.length → LfP p b.cost k (pre ++ [(w : Int)]) (c + wageP p w * minD (p.duties.getD d default))) :
    FnL Tryz.prog c0 68 [pt gs, .v (Buf gb d p.duties.length), I c, .fn (.func 71) [pt gf]] (Fr1 (.slice none 0 0) [] :: Fb1 gf (.slice none 0 0) :: Lg (.slice A q cp) s.log :: Se gs p (refV gs) s.fuel b (.slice A q cp) :: Bf gb zs :: R)
      fun a L' => ExtRR p gs gb gf b d pre R (extR (stpR p b.cost k pre c) p.workers.length 0 [] s) a L' := by
  have hsd := hs.du
  have hsw := hs.wk
  have h24 := (validP_iff.1 hv).2.1
  have hl := hp.l
  have hld : (p.duties.map duav).length = p.duties.length := by simp
  have hlw : (p.workers.map wkav).length = p.workers.length := by simp
  refine fnL_run (T := tab) Tryz.func68 rfl Tryz.ntmps68 rfl Tryz.results68 (fun _ hw0 => ?_)
  repeat' ((conv => whnf) <;> (first | refine bN (T := tab) ?_ | refine zM ?_ | refine zW ?_ | intro _ | exact zF | refine Br.tt ?_ | refine Br.ff ?_ | (refine Br.mk (fun h => ?_) (fun h => ?_) <;> (try simp only [sh] at h) <;> try first | (exfalso; omega) | exact absurd trivial h | (simp at h; done)) | refine zA ?_ | refine zN ?_ | refine zO ?_ | refine zP ?_ | refine zB ?_ | refine lB ?_ | refine lBA ?_ | refine zK ?_ | refine s1 ?_ | refine sA ?_ | refine zC ?_ | fail))
  (conv => whnf); refine CK.loopK [8, 10, 11, 12, 13, 14, 23, 24, 25, 26, 27, 28, 29, 30, 31, 32, 33, 34, 35, 36, 37, 38, 39, 40, 41, 42, 43, 44, 45, 46, 47, 48, 49, 50, 51, 52, 53, 54, 55, 56, 57, 58, 59, 60, 61, 62, 63, 64, 65] (σ := Nat × RS × List Int × (Option Addr × Nat × Nat) × List Int × (Option Addr × Nat × Nat)) (fun s' => s'.1 ≤ p.workers.length ∧ OkR s'.2.1 ∧ (s'.2.2.1.length = p.duties.length ∧ s'.2.2.1.take d = pre) ∧ s'.2.2.2.2.1.length = s'.1 ∧ extR (stpR p b.cost k pre c) p.workers.length 0 [] s = extR (stpR p b.cost k pre c) (p.workers.length - s'.1) s'.1 s'.2.2.2.2.1 s'.2.1) (fun ⟨w, _⟩ => [(23, I w)]) (fun ⟨_, s, zs, v, frm, u⟩ => [Fr1 (.slice u.1 u.2.1 u.2.2) frm, Fb1 gf (.slice u.1 u.2.1 u.2.2), Lg (.slice v.1 v.2.1 v.2.2) s.log, Se gs p (refV gs) s.fuel b (.slice v.1 v.2.1 v.2.2), Bf gb zs]) _ (fun s' => p.workers.length - s'.1) (0, s, zs, (A, q, cp), [], (none, 0, 0)) ⟨Nat.zero_le _, ho, ⟨hz, ht⟩, rfl, rfl⟩ Qy (List.Sublist.refl _) ?_
  conv => whnf
  rintro ⟨w, s1, z1, ⟨A1, q1, cp1⟩, frm, ⟨A2, q2, cp2⟩⟩ ⟨i1, i2, ⟨i3, i4⟩, i6, i5⟩
  simp only at i1 i2 i3 i4 i5 i6
  dsimp only
  by_cases hw : w < p.workers.length
  · have hdl : d < p.duties.length := by omega
    have hm := min_bd hv _ (getD_mem hdl)
    have c1 := pMinutes_ok (p.duties.getD d default) (by omega)
    have hwg := wage_bdP hv _ (getD_mem hw)
    have hmul := mul_bd hwg hm
    have hset : (z1.map I).set d (I (w : Int)) = (z1.set d (w : Int)).map I := by rw [List.map_set]
    have hz1 : (z1.map I).length = p.duties.length := by simp [i3]
    have ht1 : (z1.set d (w : Int)).take (d + 1) = pre ++ [(w : Int)] := by
      rw [List.take_set, take_snocP (by omega), i4, List.set_append_right _ _ (by omega), hd, Nat.sub_self]
      rfl
    have hpre : PreOk p k (pre ++ [(w : Int)]) := ⟨by simp; omega, fun x hx => by
      rcases List.mem_append.1 hx with hx | hx
      · exact hp.w x hx
      · rw [List.mem_singleton] at hx; omega⟩
    have hV := fun c0 R => ih (pre ++ [(w : Int)]) (d + 1) (c + (p.workers.getD w default).wage * minD (p.duties.getD d default)) s1 (z1.set d (w : Int)) c0 R gs gb A1 q1 cp1 (by simp [hd]) hpre (by omega) i2 (hlf w hw) (by rw [List.length_set, i3]) ht1
    have hio := refP_ok p b.cost k (pre ++ [(w : Int)]) (c + (p.workers.getD w default).wage * minD (p.duties.getD d default)) s1 i2
    have ew : p.workers.length - w = (p.workers.length - (w + 1)) + 1 := by omega
    rw [ew, extR] at i5
    have eF : stpR p b.cost k pre c w s1 = refP p b.cost k (pre ++ [(w : Int)]) (c + (p.workers.getD w default).wage * minD (p.duties.getD d default)) s1 := by unfold stpR wageP; rw [hd]
    rw [eF] at i5
    generalize hr : refP p b.cost k (pre ++ [(w : Int)]) (c + (p.workers.getD w default).wage * minD (p.duties.getD d default)) s1 = r at *
    have heach := fun c0 R => pRefute1_ok (c := c0) r.2.1 gf A2 q2 cp2 frm R (by omega)
    repeat' ((conv => whnf) <;> (first | (refine LK.eff (Eff.callCL ent71 rfl (Sb.refl _) rfl (SbL.refl _) (FnL.front 5 rfl (FnL.front 5 rfl (heach _ _)))) ?_ <;> rintro _ _ ⟨A4, q4, cp4, rfl, rfl⟩) | (refine LK.eff (Eff.callB (first := [.pointer (some ⟨gs, 0, none⟩)]) ent34 rfl rfl (SbL.refl _) (FnL.front 5 rfl (FnL.front 5 rfl (FnL.front 5 rfl (hV _ _))))) ?_ <;> rintro _ _ ⟨z2, A3, q3, cp3, rfl, h1, h2, rfl⟩) | refine CK.anyQ (T := tab) 19 20 (by exact Qk) ?_ | (refine LK.eff (Eff.appB (T := tab) (len := d) (cap := p.duties.length) 5 rfl rfl rfl rfl rfl (.refl _) rfl rfl hdl hz1) ?_ <;> rintro _ _ ⟨rfl, rfl⟩ <;> rw [hset]) | refine bS (T := tab) ?_ | refine LK.ask (bC (T := tab) ?_) | refine bN (T := tab) ?_ | refine zM ?_ | refine zW ?_ | intro _ | exact zF | refine Fin.pure ?_ | refine Br.tt ?_ | refine Br.ff ?_ | (refine Br.mk (fun h => ?_) (fun h => ?_) <;> (try simp only [sh] at h) <;> try first | (exfalso; omega) | exact absurd trivial h | (simp at h; done)) | refine zA ?_ | refine zN ?_ | refine zO ?_ | refine zP ?_ | refine zB ?_ | refine zL ent64 c1 ?_ | refine zG ent64 (fun h => c1) ?_ | refine lB ?_ | refine lBA ?_ | refine zK ?_ | refine s1 ?_ | refine sA ?_ | refine LK.gr (Gr.bslV rfl rfl rfl rfl) ?_ | refine Ask.of (Gr.bslV rfl rfl rfl rfl) ?_ | refine zC ?_ | refine zD ?_ | fail))
    · have hz2 := take_dn h2 hd
      conv => whnf
      rw [if_neg h] at i5
      rw [i5]
      exact .out (Lg (.slice A3 q3 cp3) r.1.log :: Se gs p (refV gs) r.1.fuel b (.slice A3 q3 cp3) :: Bf gb z2 :: R) (.cons_cons _ (.cons_cons _ (.cons_cons _ (.cons _ (.cons _ (.cons _ (.refl _))))))) ⟨z2, A3, q3, cp3, rfl, h1, hz2, .inl ⟨h, rfl⟩⟩
    · have hz2 := take_dn h2 hd
      rw [if_pos h] at i5
      (conv => whnf); (refine Nxt.of ((w + 1, r.1, z2, (A3, q3, cp3), frm ++ [r.2.1], (A4, q4, cp4))) [8, 10, 11, 12, 13, 14, 23, 24, 25, 26, 27, 28, 29, 30, 31, 32, 33, 34, 35, 36, 37, 38, 39, 40, 41, 42, 43, 44, 45, 46, 47, 48, 49, 50, 51, 52, 53, 54, 55, 56, 57, 58, 59, 60, 61, 62, 63, 64, 65] Qr Qr Qr ?_ ?_ Qy ?_ <;> (try dsimp only) <;> (try omega))
      · exact ⟨by omega, hio h, ⟨h1, hz2⟩, by simp; omega, i5⟩
      · exact .cons_cons _ (.cons_cons _ (.cons_cons _ (.cons_cons _ (.cons_cons _ (.cons _ (.refl _))))))
  · have ew : p.workers.length - w = 0 := by omega
    rw [ew, extR] at i5
    repeat' ((conv => whnf) <;> (first | refine zM ?_ | refine zW ?_ | intro _ | exact zF | refine Br.tt ?_ | refine Br.ff ?_ | (refine Br.mk (fun h => ?_) (fun h => ?_) <;> (try simp only [sh] at h) <;> try first | (exfalso; omega) | exact absurd trivial h | (simp at h; done)) | refine zA ?_ | refine zN ?_ | refine zO ?_ | refine zP ?_ | refine zB ?_ | refine lB ?_ | refine lBA ?_ | refine zK ?_ | refine s1 ?_ | refine sA ?_ | refine LK.gr (Gr.bslV rfl rfl rfl rfl) ?_ | refine Ask.of (Gr.bslV rfl rfl rfl rfl) ?_ | refine zC ?_ | refine zD ?_ | fail))
    conv => whnf
    rw [i5]
    exact .out _ (.refl _) ⟨z1, A1, q1, cp1, rfl, i3, i4, .inr ⟨rfl, A2, q2, cp2, rfl⟩⟩
theorem set_erase {L : List Ent} {i : Nat} {e e' : Ent} (hL : L[i]? = some e) : (e' :: L.eraseIdx i).Perm (L.set i e') := by
  obtain ⟨hi, rfl⟩ := List.getElem?_eq_some_iff.1 hL
  have h := erase_perm (L := L.set i e') (i := i) (e := e') (by rw [List.getElem?_set, if_pos rfl, if_pos hi])
  rwa [show (L.set i e').eraseIdx i = L.eraseIdx i by
    apply List.ext_getElem?
    intro j
    rw [List.getElem?_eraseIdx, List.getElem?_eraseIdx]
    split
    · rw [List.getElem?_set, if_neg (by omega)]
    · rw [List.getElem?_set, if_neg (by omega)]] at h
theorem FnL.at {P : Program} {c : Ctx} {f : FuncId} {args : List AV} {L : List Ent} {e e' : Ent} {r : AV} {i : Nat} (hL : L[i]? = some e) (h : ∀ R, FnL P c f args (e :: R) fun a L' => a = r ∧ L' = e' :: R) : FnL P c f args L fun a L' => a = r ∧ L' = L.set i e' :=
  ⟨fun H w vs hs hr => Calls.mono ((h (L.eraseIdx i)).out H w vs (hs.perm (erase_perm hL).symm) hr) fun _ _ ⟨v, a, H', L', h1, ⟨h2, h3⟩, h4, h5, h6⟩ => ⟨v, a, H', _, h1, ⟨h2, rfl⟩, h4, h5, (by rw [h3] at h6; exact h6.perm (set_erase hL))⟩⟩
set_option maxRecDepth 4000 in
set_option maxHeartbeats 16000000 in
theorem pRefStep (p : Pl) (b : BS) (_hb : 0 ≤ b.cost ∧ b.cost ≤ 1000000000000) (hs : Small p) (hv : validP p = true) (m : Nat) (ih : ∀ k, m = k + 1 → RefOk p b k) : RefOk p b m := by
  intro pre d c s zs c0 R gs gb A q cp hd hp hc ho hlf hz ht
  have hsd := hs.du
  have h24 := (validP_iff.1 hv).2.1
  have hl := hp.l
  have hld : (p.duties.map duav).length = p.duties.length := by simp
  have hlst := lst_bd' hv d (by omega)
  have hcl : FnA Tryz.prog 66 [.fp (sccs p (refV gs) (s.fuel - 1) b (.slice A q cp)) 0, .sl 1 ((zs.take d).map I)] (B (cleanB p pre)) := by
    rw [ht]
    exact pClean_ok p (refV gs) (s.fuel - 1) b (.slice A q cp) pre hs hv (by omega) hp.w
  have hlat : (((List.range (p.duties.length + 1)).map (lstP p)).map I)[((d : Nat) : Int).toNat]? = some (I (lstP p d)) := by
    rw [Int.toNat_natCast, List.getElem?_map, List.getElem?_map, List.getElem?_range (by omega)]
    rfl
  have hmx : zs.length ≤ p.duties.length ∧ p.duties.length ≤ maxLen := ⟨by omega, by unfold maxLen; omega⟩
  have hf := ho.f
  have hlg := ho.l
  have hbu := fun c0 R => pBurn_ok (c := c0) (R := R) gs p (refV gs) s.fuel b (.slice A q cp) (by omega)
  rw [refP_eq]
  refine fnL_run (T := tab) Tryz.func34 rfl Tryz.ntmps34 rfl Tryz.results34 (fun _ hw0 => ?_)
  repeat' ((conv => whnf) <;> (first | refine bN (T := tab) ?_ | (refine LK.callL ent65 (FnL.at (i := 1) rfl (hbu _)) rfl rfl Ql ?_ <;> rintro _ _ ⟨rfl, rfl⟩) | refine zM ?_ | refine zW ?_ | intro _ | exact zF | refine Br.tt ?_ | refine Br.ff ?_ | (refine Br.mk (fun h => ?_) (fun h => ?_) <;> (try simp only [sh] at h) <;> try first | (exfalso; omega) | exact absurd trivial h | (simp at h; done)) | refine zA ?_ | refine zN ?_ | refine zO ?_ | refine zP ?_ | refine zB ?_ | refine lB ?_ | refine lBA ?_ | refine zK ?_ | refine s1 ?_ | refine sA ?_ | refine zC ?_ | fail))
  · conv => whnf
    rw [if_pos (by assumption)]
    exact .out (Lg (.slice A q cp) s.log :: Se gs p (refV gs) (s.fuel - 1) b (.slice A q cp) :: Bf gb zs :: R) (.refl _) ⟨zs, A, q, cp, rfl, hz, ht, rfl⟩
  rename_i h0
  rw [if_neg (by omega)]
  refine CK.nilrow 124 3 ?_
  (conv => whnf); refine CK.loopK [8, 9, 10, 18, 19, 20, 21, 22, 23, 24, 25, 26, 27, 28, 29] (σ := Nat × (Option Addr × Nat × Nat)) (fun s => s.1 ≤ d) (fun ⟨i, v⟩ => [(8, .v (.slice v.1 v.2.1 v.2.2)), (18, I i)]) (fun ⟨i, v⟩ => [.row (.slice v.1 v.2.1 v.2.2) 124 3 0 false ((noL (pre.take i)).map ltav)]) (Lg (.slice A q cp) s.log :: Se gs p (refV gs) (s.fuel - 1) b (.slice A q cp) :: Bf gb zs :: R) (fun s => d - s.1) (0, (none, 0, 0)) (Nat.zero_le _) Qy (List.Sublist.refl _) ?_
  conv => whnf
  rintro ⟨i, ⟨A1, q1, cp1⟩⟩ i1
  simp only at i1
  dsimp only
  have hnl : ((noL (pre.take i)).map ltav).length = i := by rw [List.length_map, noLo_len, List.length_take]; omega
  by_cases hi : i < d
  · have hzi : zs.getD (i : Int).toNat default = pre.getD i default := by
      rw [Int.toNat_natCast, ← ht]
      simp [List.getD, hi]
    have hts : noL (pre.take (i + 1)) = noL (pre.take i) ++ [⟨(i : Int), pre.getD i default, false⟩] := by
      rw [take_snocP (by omega), noL_snoc, List.length_take, Nat.min_eq_left (by omega)]
    repeat' ((conv => whnf) <;> (first | refine nR (T := tab) ?_ | refine bL (T := tab) (i := 3) ?_ | refine bI (T := tab) ?_ | refine zM ?_ | refine zW ?_ | intro _ | exact zF | refine Br.tt ?_ | refine Br.ff ?_ | (refine Br.mk (fun h => ?_) (fun h => ?_) <;> (try simp only [sh] at h) <;> try first | (exfalso; omega) | exact absurd trivial h | (simp at h; done)) | refine zA ?_ | refine zN ?_ | refine zO ?_ | refine zP ?_ | refine zB ?_ | refine lB ?_ | refine lBA ?_ | refine zK ?_ | refine s1 ?_ | refine sA ?_ | refine pS ?_ | refine LK.gr (Gr.bslV rfl rfl rfl rfl) ?_ | refine Ask.of (Gr.bslV rfl rfl rfl rfl) ?_ | refine Kx.nil ?_ | refine Kx.stp rfl rfl Qs ?_ | refine kA ?_ | refine kS ?_ | (refine Kx.frzR 0 rfl ?_ <;> refine kF ?_) | refine kP ?_ | refine k1 ?_ | refine kB ?_ | refine kL ?_ | refine zC ?_ | refine zD ?_ | fail))
    rename_i A2 q2 cp2
    (conv => whnf); (refine Nxt.of ((i + 1, (A2, q2, cp2))) [8, 9, 10, 18, 19, 20, 21, 22, 23, 24, 25, 26, 27, 28, 29] Qr Qr Qr ?_ ?_ Qy ?_ <;> (try dsimp only) <;> (try omega))
    rw [hts, List.map_append, ← hzi]
    exact Qs
  obtain rfl : i = d := by omega
  rw [List.take_of_length_le (by omega)] at hnl ⊢
  have hif : ((decide (0 < pre.length) && decide (b.cost ≤ c + lstP p pre.length)) = true) ↔ (0 < i ∧ b.cost ≤ c + lstP p i) := by rw [hd]; simp
  repeat' ((conv => whnf) <;> (first | refine LK.gr (Gr.callF 2 3 rfl rfl (by decide) hmx ent66 hcl rfl rfl (.ptr 0 (.buf i (by omega) .nil))) ?_ | refine Ask.of (Gr.callF 2 3 rfl rfl (by decide) hmx ent66 hcl rfl rfl (.ptr 0 (.buf i (by omega) .nil))) ?_ | refine bN (T := tab) ?_ | refine zM ?_ | refine zW ?_ | intro _ | exact zF | refine Br.tt ?_ | refine Br.ff ?_ | (refine Br.mk (fun h => ?_) (fun h => ?_) <;> (try simp only [sh] at h) <;> try first | (exfalso; omega) | exact absurd trivial h | (simp at h; done)) | refine zA ?_ | refine zN ?_ | refine zO ?_ | refine zP ?_ | refine zB ?_ | refine lB ?_ | refine lBA ?_ | refine zK ?_ | refine s1 ?_ | refine sA ?_ | refine pS ?_ | refine Kx.nil ?_ | refine Kx.stp rfl rfl Qs ?_ | refine kA ?_ | refine kS ?_ | (refine Kx.frzR 0 rfl ?_ <;> refine kF ?_) | refine kP ?_ | refine k1 ?_ | refine kB ?_ | refine kL ?_ | refine zC ?_ | fail))
  · have happ := fun c R => pAppend_ok (c := c) p (refV gs) (s.fuel - 1) b gs A q cp s.log ⟨noL pre, 4, []⟩ R (by omega)
    rw [if_pos (hif.2 ⟨by omega, h.2⟩)]
    repeat' ((conv => whnf) <;> (first | (refine LK.frzR 0 rfl ?_ <;> refine LK.callL ent70 (FnL.front 2 rfl (FnL.front 2 rfl (happ _ _))) rfl rfl Ql (fun _ _ hcall => ?_) <;> obtain ⟨A6, q6, cp6, rfl, rfl⟩ := hcall) | refine zM ?_ | refine zW ?_ | intro _ | exact zF | refine Br.tt ?_ | refine Br.ff ?_ | (refine Br.mk (fun h => ?_) (fun h => ?_) <;> (try simp only [sh] at h) <;> try first | (exfalso; omega) | exact absurd trivial h | (simp at h; done)) | refine zA ?_ | refine zN ?_ | refine zO ?_ | refine zP ?_ | refine zB ?_ | refine lB ?_ | refine lBA ?_ | refine zK ?_ | refine s1 ?_ | refine sA ?_ | refine pS ?_ | refine Kx.nil ?_ | refine Kx.stp rfl rfl Qs ?_ | refine kA ?_ | refine kS ?_ | (refine Kx.frzR 0 rfl ?_ <;> refine kF ?_) | refine kP ?_ | refine k1 ?_ | refine kB ?_ | refine kL ?_ | refine zC ?_ | fail))
    conv => whnf
    exact .out (Lg (.slice A6 q6 cp6) (addP ⟨s.fuel - 1, s.log⟩ ⟨noL pre, 4, []⟩).1.log :: Se gs p (refV gs) (addP ⟨s.fuel - 1, s.log⟩ ⟨noL pre, 4, []⟩).1.fuel b (.slice A6 q6 cp6) :: Bf gb zs :: R) (.cons_cons _ (.cons_cons _ (.cons _ (.refl _)))) ⟨zs, A6, q6, cp6, rfl, hz, ht, rfl⟩
  · have happ := fun c R => pAppend_ok (c := c) p (refV gs) (s.fuel - 1) b gs A q cp s.log ⟨noL pre, 3, []⟩ R (by omega)
    rename_i h1
    rw [if_neg (fun hh => by have := hif.1 hh; omega), if_pos h]
    repeat' ((conv => whnf) <;> (first | (refine LK.frzR 0 rfl ?_ <;> refine LK.callL ent70 (FnL.front 2 rfl (FnL.front 2 rfl (happ _ _))) rfl rfl Ql (fun _ _ hcall => ?_) <;> obtain ⟨A6, q6, cp6, rfl, rfl⟩ := hcall) | refine zM ?_ | refine zW ?_ | intro _ | exact zF | refine Br.tt ?_ | refine Br.ff ?_ | (refine Br.mk (fun h => ?_) (fun h => ?_) <;> (try simp only [sh] at h) <;> try first | (exfalso; omega) | exact absurd trivial h | (simp at h; done)) | refine zA ?_ | refine zN ?_ | refine zO ?_ | refine zP ?_ | refine zB ?_ | refine lB ?_ | refine lBA ?_ | refine zK ?_ | refine s1 ?_ | refine sA ?_ | refine pS ?_ | refine Kx.nil ?_ | refine Kx.stp rfl rfl Qs ?_ | refine kA ?_ | refine kS ?_ | (refine Kx.frzR 0 rfl ?_ <;> refine kF ?_) | refine kP ?_ | refine k1 ?_ | refine kB ?_ | refine kL ?_ | refine zC ?_ | fail))
    conv => whnf
    exact .out (Lg (.slice A6 q6 cp6) (addP ⟨s.fuel - 1, s.log⟩ ⟨noL pre, 3, []⟩).1.log :: Se gs p (refV gs) (addP ⟨s.fuel - 1, s.log⟩ ⟨noL pre, 3, []⟩).1.fuel b (.slice A6 q6 cp6) :: Bf gb zs :: R) (.cons_cons _ (.cons_cons _ (.cons _ (.refl _)))) ⟨zs, A6, q6, cp6, rfl, hz, ht, rfl⟩
  · rename_i h1 gf
    have hn4 : ¬(decide (0 < pre.length) && decide (b.cost ≤ c + lstP p pre.length)) = true := fun hh => by have := hif.1 hh; omega
    rw [if_neg hn4, if_neg (by rw [h]; simp)]
    cases m with
    | zero =>
      rcases hlf with hh | hh
      · exact absurd ⟨hd ▸ hh.1, by rw [← hd]; exact hh.2⟩ (fun q => hn4 (hif.2 q))
      · rw [h] at hh; cases hh
    | succ k =>
      have hext := fun c0 R gf => pExtR_ok p b hs hv k (ih k rfl) pre i c ⟨s.fuel - 1, s.log⟩ zs c0 R gs gb gf A q cp hd hp hc ⟨⟨by simp only; omega, by simp only; omega⟩, ho.l⟩ hz ht (by rw [← hd]; exact hlf h)
      have hxk := extR_ok (F := stpR p b.cost k pre c) p.workers.length 0 [] ⟨s.fuel - 1, s.log⟩ (fun v s _ _ hs h => refP_ok p b.cost k _ _ s hs h) ⟨⟨by simp only; omega, by simp only; omega⟩, ho.l⟩
      rw [rfStP]
      generalize hr : extR (stpR p b.cost k pre c) p.workers.length 0 [] ⟨s.fuel - 1, s.log⟩ = r at *
      obtain ⟨⟨⟨rf, rl⟩, frm⟩, re⟩ := r
      simp only at hxk
      repeat' ((conv => whnf) <;> (first | (refine LK.nilrow 3 1 ?_ <;> refine LK.callL ent68 (FnL.front 5 rfl (FnL.front 5 rfl (FnL.front 5 rfl (FnL.front 4 rfl (FnL.front 4 rfl (hext _ _ _)))))) rfl rfl Ql (fun _ _ hcall => ?_) <;> obtain ⟨z2, A3, q3, cp3, rfl, e1, e2, ⟨he, rfl⟩ | ⟨he, A7, q7, cp7, rfl⟩⟩ := hcall) | refine zM ?_ | refine zW ?_ | intro _ | exact zF | refine Br.tt ?_ | refine Br.ff ?_ | (refine Br.mk (fun h => ?_) (fun h => ?_) <;> (try simp only [sh] at h) <;> try first | (exfalso; omega) | exact absurd trivial h | (simp at h; done)) | refine zA ?_ | refine zN ?_ | refine zO ?_ | refine zP ?_ | refine zB ?_ | refine lB ?_ | refine lBA ?_ | refine zK ?_ | refine s1 ?_ | refine sA ?_ | refine pS ?_ | refine Kx.nil ?_ | refine Kx.stp rfl rfl Qs ?_ | refine kA ?_ | refine kS ?_ | (refine Kx.frzR 0 rfl ?_ <;> refine kF ?_) | refine kP ?_ | refine k1 ?_ | refine kB ?_ | refine kL ?_ | refine zC ?_ | fail))
      · rw [if_pos he]
        conv => whnf
        exact .out (Lg (.slice A3 q3 cp3) rl :: Se gs p (refV gs) rf b (.slice A3 q3 cp3) :: Bf gb z2 :: R) (.cons_cons _ (.cons_cons _ (.cons_cons _ (.cons _ (.refl _))))) ⟨z2, A3, q3, cp3, rfl, e1, e2, rfl⟩
      · rw [if_neg (fun q => q he)]
        have hx := hxk h
        have hxl := hx.1.l
        have hfl : (frm.map I).length = p.workers.length := by rw [List.length_map, hx.2]; simp
        have hsw := hs.wk
        have hfr : frm.map I ++ [I (i : Int)] = (frm ++ [(i : Int)]).map I := by rw [List.map_append]; rfl
        have happ := fun c R => pAppend_ok (c := c) p (refV gs) rf b gs A3 q3 cp3 rl ⟨noL pre, 5, frm ++ [(i : Int)]⟩ R hxl
        repeat' ((conv => whnf) <;> (first | refine bN (T := tab) ?_ | refine zM ?_ | refine zW ?_ | intro _ | exact zF | refine Br.tt ?_ | refine Br.ff ?_ | (refine Br.mk (fun h => ?_) (fun h => ?_) <;> (try simp only [sh] at h) <;> try first | (exfalso; omega) | exact absurd trivial h | (simp at h; done)) | refine zA ?_ | refine zN ?_ | refine zO ?_ | refine zP ?_ | refine zB ?_ | refine lB ?_ | refine lBA ?_ | refine zK ?_ | refine s1 ?_ | refine sA ?_ | refine pS ?_ | refine LK.gr (Gr.bslV rfl rfl rfl rfl) ?_ | refine Ask.of (Gr.bslV rfl rfl rfl rfl) ?_ | refine Kx.nil ?_ | refine Kx.stp rfl rfl Qs ?_ | refine kA ?_ | refine kS ?_ | (refine Kx.frzR 0 rfl ?_ <;> refine kF ?_) | refine kP ?_ | refine k1 ?_ | refine kB ?_ | refine kL ?_ | refine zC ?_ | refine zD ?_ | fail))
        rw [hfr, hd]
        repeat' ((conv => whnf) <;> (first | (refine LK.frzR 0 rfl ?_ <;> refine LK.frzR 5 rfl ?_ <;> refine LK.callL ent70 (FnL.front 3 rfl (FnL.front 3 rfl (happ _ _))) rfl rfl (SbL.cons (Sb.refl _) (SbL.cons (Sb.agg (SbL.cons (Sb.row 5 rfl) (SbL.cons (Sb.refl _) (SbL.cons (Sb.row 0 rfl) SbL.nil)))) SbL.nil)) (fun _ _ hcall => ?_) <;> obtain ⟨A8, q8, cp8, rfl, rfl⟩ := hcall) | refine zM ?_ | refine zW ?_ | intro _ | exact zF | refine Br.tt ?_ | refine Br.ff ?_ | (refine Br.mk (fun h => ?_) (fun h => ?_) <;> (try simp only [sh] at h) <;> try first | (exfalso; omega) | exact absurd trivial h | (simp at h; done)) | refine zA ?_ | refine zN ?_ | refine zO ?_ | refine zP ?_ | refine zB ?_ | refine lB ?_ | refine lBA ?_ | refine zK ?_ | refine s1 ?_ | refine sA ?_ | refine pS ?_ | refine LK.gr (Gr.bslV rfl rfl rfl rfl) ?_ | refine Ask.of (Gr.bslV rfl rfl rfl rfl) ?_ | refine Kx.nil ?_ | refine Kx.stp rfl rfl Qs ?_ | refine kA ?_ | refine kS ?_ | (refine Kx.frzR 0 rfl ?_ <;> refine kF ?_) | refine kP ?_ | refine k1 ?_ | refine kB ?_ | refine kL ?_ | refine zC ?_ | refine zD ?_ | fail))
        conv => whnf
        exact .out (Lg (.slice A8 q8 cp8) (addP ⟨rf, rl⟩ ⟨noL pre, 5, frm ++ [(i : Int)]⟩).1.log :: Se gs p (refV gs) (addP ⟨rf, rl⟩ ⟨noL pre, 5, frm ++ [(i : Int)]⟩).1.fuel b (.slice A8 q8 cp8) :: Bf gb z2 :: R) (.cons_cons _ (.cons_cons _ (.cons _ (.cons _ (.cons_cons _ (.cons _ (.refl _))))))) ⟨z2, A8, q8, cp8, rfl, e1, e2, rfl⟩
theorem pRefute_ok (p : Pl) (b : BS) (hb : 0 ≤ b.cost ∧ b.cost ≤ 1000000000000) (hs : Small p) (hv : validP p = true) : ∀ m, RefOk p b m
  | 0 => pRefStep p b hb hs hv 0 fun _ h => by cases h
  | m + 1 => pRefStep p b hb hs hv (m + 1) fun k h => by
    cases h
    exact pRefute_ok p b hb hs hv m
end Go.Proofs.YtecemgicnboaaaaGreat
