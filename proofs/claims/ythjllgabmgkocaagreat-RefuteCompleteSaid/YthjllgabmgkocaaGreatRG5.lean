/-
  Walks: package refute: bad, cost, unit.
  Conditions: those of each theorem.
-/
import Derived.Test.YthjllgabmgkocaaGreatRG4
namespace Go.Proofs.YthjllgabmgkocaaGreat
open Go.E2 Go.Wage
theorem denL_bd {n : Int} : ∀ {cl : List Lt} {ro r : List Int}, denL cl ro = some r → (∀ l ∈ cl, 0 ≤ l.wk ∧ l.wk < n) → (∀ w ∈ ro, -1 ≤ w ∧ w < n) → ∀ w ∈ r, -1 ≤ w ∧ w < n
  | [], ro, r, h, _, h2 => by rw [denL] at h; injection h with h; rw [← h]; exact h2
  | l :: cl, ro, r, h, h1, h2 => by
    rw [denL] at h
    split at h
    · refine denL_bd h (fun x hx => h1 x (by simp [hx])) fun w hw => ?_
      rcases List.mem_or_eq_of_mem_set hw with hw | rfl
      · exact h2 w hw
      · have := h1 l (by simp); omega
    · cases h
theorem denS_ro {p : Pl} {s : Sg} {r : List Int} (hp : s.cl.all (properB p) = true) (h : denS p s = some r) : isRo p r = true := by
  refine isRo_iff.2 ⟨denS_len h, ?_⟩
  unfold denS at h
  split at h
  · refine denL_bd h (fun l hl => ?_) fun w hw => ?_
    · have := properB_iff.1 (List.all_eq_true.1 hp l hl); omega
    · rw [List.eq_of_mem_replicate hw]; omega
  · cases h
/-- what the steps of a log are bounded by -/
structure LogOk (p : Pl) (log : List Sg) : Prop where
  v : validP p = true
  l : log.length ≤ 100000
  cl : ∀ s ∈ log, s.cl.length ≤ 100000 ∧ s.frm.length ≤ 100000
theorem LogOk.du {p : Pl} {log : List Sg} (h : LogOk p log) : p.duties.length ≤ 1000 := by have := (validP_iff.1 h.v).2.1; omega
theorem LogOk.wk {p : Pl} {log : List Sg} (h : LogOk p log) : p.workers.length ≤ 1000 := by have := (validP_iff.1 h.v).2.2.1; omega
set_option maxRecDepth 4000 in
set_option maxHeartbeats 4000000 in
theorem uBad_ok {c : Ctx} {L : List Ent} {i g : Nat} {p : Pl} {bd : Int} {log : List Sg} {cur : Int} (hL : L[i]? = some (Ck g p bd log cur)) (s : Sg) (h : LogOk p log) (hs : s ∈ log) (hp : s.cl.all (properB p) = true) :
    FnR c 39 [pt g, sgav s] L (badS p s) := by
  refine FnX.same hL fun R => ?_
  have hc := h.cl s hs
  refine fnX_run (T := tab) [42, 71] Tryz.func39 rfl Tryz.ntmps39 rfl Tryz.results39 (fun c1 hw0 hle0 => ?_)
  repeat' ((conv => whnf) <;> (first | refine CK.anyX [0, 1, 2, 3, 4] [5, 6, 7] _ (List.Sublist.refl _) Qk ?_ | refine Must.mk (fun h => h) ?_ | refine Must.mk (fun _ => rfl) ?_ | refine Must.mk Qw ?_ | refine MW.ok Qw ?_ | intro _ | exact Fin.pure rfl | refine Br.tt ?_ | refine Br.ff ?_ | (refine Br.mk (fun h => ?_) (fun h => ?_) <;> (try simp only [sh] at h) <;> (try first | (exfalso; omega) | exact absurd trivial h | (exfalso; simp at h; done))) | refine Ix.at ‹_› Qw ?_ | refine Ix.mapN Qw ?_ | refine Ix.mapN1 Qw ?_ | refine Ix.map Qw ?_ | refine Ix.at Qi Qw ?_ | (refine XK.call ent71 (uDenied_ok (p := p) (bd := bd) (log := log) (cur := cur) Qj s h.du (by omega) (by omega) hp) rfl rfl Ql (fun _ _ hcall => ?_) (fun _ hpan => ?_) <;> (first | obtain ⟨⟨ro, hden, rfl⟩, rfl⟩ := hcall | obtain ⟨rfl, hden⟩ := hpan)) | (refine KxX.call ent71 (uDenied_ok (p := p) (bd := bd) (log := log) (cur := cur) Qj s h.du (by omega) (by omega) hp) rfl rfl rfl Ql (fun _ _ hcall => by obtain ⟨⟨ro, hden, rfl⟩, rfl⟩ := hcall; exact Qs) (fun _ _ hcall => ?_) (fun _ hpan => ?_) <;> (first | obtain ⟨⟨ro, hden, rfl⟩, rfl⟩ := hcall | obtain ⟨rfl, hden⟩ := hpan)) | (refine LK.callL ent70 (uViol_ok Qj ro h.v (denS_len hden)) rfl rfl Ql (fun _ _ hcall => ?_) <;> obtain ⟨rfl, rfl⟩ := hcall) | refine LK.callLW ent70 rfl ?_ (fun h => uViol_ok Qj ro h.v (denS_len hden)) rfl rfl Ql ?_ | (refine KxX.callL ent70 (uViol_ok Qj ro h.v (denS_len hden)) rfl rfl rfl Ql (fun _ _ hcall => by obtain ⟨rfl, rfl⟩ := hcall; exact Qs) (fun _ _ hcall => ?_) <;> obtain ⟨rfl, rfl⟩ := hcall) | (refine XK.call ent42 (uReq_ok _) rfl rfl Ql (fun _ _ hcall => ?_) (fun _ hpan => ?_) <;> (first | obtain ⟨⟨rfl, hb⟩, rfl⟩ := hcall | obtain ⟨rfl, hb⟩ := hpan)) | (refine KxX.call ent42 (uReq_ok _) rfl rfl rfl Ql (fun _ _ hcall => by obtain ⟨⟨rfl, hb⟩, rfl⟩ := hcall; exact Qs) (fun _ _ hcall => ?_) (fun _ hpan => ?_) <;> (first | obtain ⟨⟨rfl, hb⟩, rfl⟩ := hcall | obtain ⟨rfl, hb⟩ := hpan)) | refine lB (T := tab) ?_ | refine lBA (T := tab) ?_ | refine LK.askW rfl ?_ | refine s1 ?_ | refine sA ?_ | refine Kx.nil ?_ | refine Kx.stp (T := tab) rfl rfl Qs ?_ | refine kA (T := tab) ?_ | (refine Kx.frzR 0 rfl ?_ <;> refine kF (T := tab) ?_) | refine kP (T := tab) ?_ | refine k1 (T := tab) ?_ | refine kB (T := tab) ?_ | refine kL (T := tab) ?_ | refine CK.any false Qk ?_ | refine XK.nil ?_ | refine CK.regX [42, 71] ?_ | refine XK.defer rfl ?_ | refine XK.deferF rfl rfl ?_ | refine ⟨rfl, PanX.of _ Qs ⟨rfl, ?_⟩⟩ | refine KxX.nil ?_ | refine KxX.stp (T := tab) rfl rfl Qs ?_ | exact True.intro | fail))
  · conv => whnf
    exact .out _ (by exact Qs) ⟨⟨rfl, by rw [badS, hden]; exact hb⟩, rfl⟩
  · rw [badS, hden]; exact hb
  · rw [badS, hden]
def termF (p : Pl) (w : Int) (d : Du) : Int := (if 0 ≤ w then (p.workers.getD w.toNat default).wage else cheapL p.workers) * (d.to_ - d.frm)
theorem fullP_snoc (p : Pl) (w : Int) (d : Du) : ∀ {a : List Int} {b : List Du}, a.length = b.length → fullP p (a ++ [w]) (b ++ [d]) = fullP p a b + termF p w d
  | [], [], _ => by simp [fullP, termF]
  | x :: a, y :: b, h => by
    have := fullP_snoc p w d (a := a) (b := b) (by simpa using h)
    rw [List.cons_append, List.cons_append, fullP, fullP, this]
    omega
  | [], _ :: _, h => by simp at h
  | _ :: _, [], h => by simp at h
theorem cheapL_bd : ∀ {l : List Wk}, (∀ w ∈ l, 0 ≤ w.wage ∧ w.wage ≤ 1000000) → 0 ≤ cheapL l ∧ cheapL l ≤ 1000000
  | [], _ => by simp [cheapL]
  | w :: l, h => by
    have key : ∀ (l : List Wk) (c : Int), 0 ≤ c ∧ c ≤ 1000000 → (∀ w ∈ l, 0 ≤ w.wage ∧ w.wage ≤ 1000000) → 0 ≤ l.foldl (fun c x => if x.wage < c then x.wage else c) c ∧ l.foldl (fun c x => if x.wage < c then x.wage else c) c ≤ 1000000 := by
      intro l
      induction l with
      | nil => intro c hc _; exact hc
      | cons x l ih =>
        intro c hc hl
        rw [List.foldl_cons]
        refine ih _ ?_ fun w hw => hl w (by simp [hw])
        have := hl x (by simp)
        split <;> omega
    exact key l w.wage (h w (by simp)) fun x hx => h x (by simp [hx])
theorem wage_bd {p : Pl} (hv : validP p = true) : ∀ w ∈ p.workers, 0 ≤ w.wage ∧ w.wage ≤ 1000000 := fun w hw => by
  have := (wkOk_iff.1 (List.all_eq_true.1 (validP_iff.1 hv).2.2.2.2.1 w hw)).2.1
  unfold inB at this
  rwa [decide_eq_true_eq] at this
theorem termF_bd {p : Pl} (hv : validP p = true) {w : Int} {d : Du} (hw : w < p.workers.length) (hd : dutyOk p d = true) : 0 ≤ termF p w d ∧ termF p w d ≤ 1440000000 := by
  have h1 := duB_bd (dutyOk.b hd)
  have h2 : 0 ≤ (if 0 ≤ w then (p.workers.getD w.toNat default).wage else cheapL p.workers) ∧ (if 0 ≤ w then (p.workers.getD w.toNat default).wage else cheapL p.workers) ≤ 1000000 := by
    split
    · exact wage_bd hv _ (gAt (by omega))
    · exact cheapL_bd (wage_bd hv)
  unfold termF
  generalize (if 0 ≤ w then (p.workers.getD w.toNat default).wage else cheapL p.workers) = a at *
  have h3 : 0 ≤ d.to_ - d.frm ∧ d.to_ - d.frm ≤ 1440 := by omega
  generalize d.to_ - d.frm = b at *
  refine ⟨Int.mul_nonneg h2.1 h3.1, ?_⟩
  have := Int.mul_le_mul h2.2 h3.2 h3.1 (by omega : (0 : Int) ≤ 1000000)
  omega
set_option maxRecDepth 4000 in
set_option maxHeartbeats 8000000 in
theorem uCost_ok {c : Ctx} {L : List Ent} {i g : Nat} {p : Pl} {bd : Int} {log : List Sg} {cur : Int} (hL : L[i]? = some (Ck g p bd log cur)) (s : Sg) (h : LogOk p log) (hs : s ∈ log) (hp : s.cl.all (properB p) = true) :
    FnR c 40 [pt g, sgav s] L (costS p bd s) := by
  refine FnX.same hL fun R => ?_
  have hc := h.cl s hs
  have hV := validP_iff.1 h.v
  have h24 := hV.2.1
  have h12 := hV.2.2.1
  have hlw : (p.workers.map wkav).length = p.workers.length := by simp
  have hld : (p.duties.map duav).length = p.duties.length := by simp
  refine fnX_run (T := tab) [42, 71] Tryz.func40 rfl Tryz.ntmps40 rfl Tryz.results40 (fun c1 hw0 hle0 => ?_)
  repeat' ((conv => whnf) <;> (first | refine Must.mk (fun h => h) ?_ | refine Must.mk (fun _ => rfl) ?_ | refine Must.mk Qw ?_ | refine MW.ok Qw ?_ | intro _ | exact Fin.pure rfl | refine Br.tt ?_ | refine Br.ff ?_ | (refine Br.mk (fun h => ?_) (fun h => ?_) <;> (try simp only [sh] at h) <;> (try first | (exfalso; omega) | exact absurd trivial h | (exfalso; simp at h; done))) | refine Ix.at ‹_› Qw ?_ | refine Ix.mapN Qw ?_ | refine Ix.mapN1 Qw ?_ | refine Ix.map Qw ?_ | refine Ix.at Qi Qw ?_ | (refine XK.call ent71 (uDenied_ok (p := p) (bd := bd) (log := log) (cur := cur) Qj s h.du (by omega) (by omega) hp) rfl rfl Ql (fun _ _ hcall => ?_) (fun _ hpan => ?_) <;> (first | obtain ⟨⟨ro, hden, rfl⟩, rfl⟩ := hcall | obtain ⟨rfl, hden⟩ := hpan)) | (refine KxX.call ent71 (uDenied_ok (p := p) (bd := bd) (log := log) (cur := cur) Qj s h.du (by omega) (by omega) hp) rfl rfl rfl Ql (fun _ _ hcall => by obtain ⟨⟨ro, hden, rfl⟩, rfl⟩ := hcall; exact Qs) (fun _ _ hcall => ?_) (fun _ hpan => ?_) <;> (first | obtain ⟨⟨ro, hden, rfl⟩, rfl⟩ := hcall | obtain ⟨rfl, hden⟩ := hpan)) | refine lB (T := tab) ?_ | refine lBA (T := tab) ?_ | refine LK.askW rfl ?_ | refine s1 ?_ | refine sA ?_ | refine Kx.nil ?_ | refine Kx.stp (T := tab) rfl rfl Qs ?_ | refine kA (T := tab) ?_ | (refine Kx.frzR 0 rfl ?_ <;> refine kF (T := tab) ?_) | refine kP (T := tab) ?_ | refine k1 (T := tab) ?_ | refine kB (T := tab) ?_ | refine kL (T := tab) ?_ | refine CK.any false Qk ?_ | refine XK.nil ?_ | refine CK.regX [42, 71] ?_ | refine XK.defer rfl ?_ | refine XK.deferF rfl rfl ?_ | refine ⟨rfl, PanX.of _ Qs ⟨rfl, ?_⟩⟩ | refine KxX.nil ?_ | refine KxX.stp (T := tab) rfl rfl Qs ?_ | exact True.intro | fail))
  rotate_left
  · rw [costS, hden]
  have hrl := denS_len hden
  have hri := (isRo_iff.1 (denS_ro hp hden)).2
  have hlr : (ro.map I).length = ro.length := by simp
  have hS : costS p bd s = decide (bd ≤ fullP p ro p.duties) := by rw [costS, hden]
  (conv => whnf); refine CK.loopX [42] [4, 5, 6, 7, 12, 13, 14, 15, 16, 17, 18, 19, 20, 21, 22, 23, 24, 25, 26, 27, 28, 29, 30, 31, 32, 33, 34, 35, 36, 37, 38, 39, 40, 41, 42, 43, 44, 45, 46, 47, 48, 49, 50, 51, 52, 53, 54, 55, 56, 57, 58, 59] (σ := Nat × Int) (fun q => q.1 ≤ ro.length ∧ q.2 = fullP p (ro.take q.1) (p.duties.take q.1) ∧ 0 ≤ q.2 ∧ q.2 ≤ 1440000000 * q.1) (fun ⟨k, t⟩ => [(12, I k), (4, I t)]) (fun _ => []) _ (fun q => ro.length - q.1) (0, 0) ⟨Nat.zero_le _, by simp [fullP], by omega, by simp⟩ Qy (List.Sublist.refl _) ?_
  conv => whnf
  rintro ⟨k, t⟩ ⟨i1, i2, i3, i4⟩
  simp only at i1 i2 i3 i4
  by_cases hk : k < ro.length
  · have hrk := hri _ (gAt hk)
    have hdk := List.all_eq_true.1 hV.2.2.2.1 _ (gAt (show k < p.duties.length by omega))
    have hdb := duB_bd (dutyOk.b hdk)
    have htb := termF_bd h.v hrk.2 hdk
    have hsn := fullP_snoc p (ro.getD k default) (p.duties.getD k default) (a := ro.take k) (b := p.duties.take k) (by simp; omega)
    rw [← take_snoc hk, ← take_snoc (show k < p.duties.length by omega), ← i2] at hsn
    have hcb := cheapL_bd (wage_bd h.v)
    by_cases h0 : 0 ≤ ro.getD k default
    · have hwb := wage_bd h.v _ (gAt (show (ro.getD k default).toNat < p.workers.length by omega))
      rw [termF, if_pos h0] at hsn htb
      repeat' ((conv => whnf) <;> (first | refine Must.mk (fun h => h) ?_ | refine Must.mk (fun _ => rfl) ?_ | refine Must.mk Qw ?_ | refine MW.ok Qw ?_ | intro _ | exact Fin.pure rfl | refine Br.tt ?_ | refine Br.ff ?_ | (refine Br.mk (fun h => ?_) (fun h => ?_) <;> (try simp only [sh] at h) <;> (try first | (exfalso; omega) | exact absurd trivial h | (exfalso; simp at h; done))) | refine Ix.at ‹_› Qw ?_ | refine Ix.mapN Qw ?_ | refine Ix.mapN1 Qw ?_ | refine Ix.map Qw ?_ | refine Ix.at Qi Qw ?_ | refine lB (T := tab) ?_ | refine lBA (T := tab) ?_ | refine lM (T := tab) ?_ | refine lM0 (T := tab) ?_ | refine lMA (T := tab) ?_ | refine sM ?_ | refine LK.askW rfl ?_ | refine s1 ?_ | refine sA ?_ | refine Kx.nil ?_ | refine Kx.stp (T := tab) rfl rfl Qs ?_ | refine kA (T := tab) ?_ | (refine Kx.frzR 0 rfl ?_ <;> refine kF (T := tab) ?_) | refine kP (T := tab) ?_ | refine k1 (T := tab) ?_ | refine kB (T := tab) ?_ | refine kL (T := tab) ?_ | refine CK.any false Qk ?_ | refine XK.nil ?_ | refine CK.regX [42, 71] ?_ | refine XK.defer rfl ?_ | refine XK.deferF rfl rfl ?_ | refine ⟨rfl, PanX.of _ Qs ⟨rfl, ?_⟩⟩ | refine KxX.nil ?_ | refine KxX.stp (T := tab) rfl rfl Qs ?_ | exact True.intro | fail))
      (conv => whnf); (refine Nxt.of ((k + 1, t + (p.workers.getD (ro.getD k default).toNat default).wage * ((p.duties.getD k default).to_ - (p.duties.getD k default).frm))) [4, 5, 6, 7, 12, 13, 14, 15, 16, 17, 18, 19, 20, 21, 22, 23, 24, 25, 26, 27, 28, 29, 30, 31, 32, 33, 34, 35, 36, 37, 38, 39, 40, 41, 42, 43, 44, 45, 46, 47, 48, 49, 50, 51, 52, 53, 54, 55, 56, 57, 58, 59] Qr Qr Qr ?_ ?_ Qy ?_ <;> (try dsimp only) <;> (try omega))
      exact Qs
    · rw [termF, if_neg h0] at hsn htb
      repeat' ((conv => whnf) <;> (first | refine Must.mk (fun h => h) ?_ | refine Must.mk (fun _ => rfl) ?_ | refine Must.mk Qw ?_ | refine MW.ok Qw ?_ | intro _ | exact Fin.pure rfl | refine Br.tt ?_ | refine Br.ff ?_ | (refine Br.mk (fun h => ?_) (fun h => ?_) <;> (try simp only [sh] at h) <;> (try first | (exfalso; omega) | exact absurd trivial h | (exfalso; simp at h; done))) | refine Ix.at ‹_› Qw ?_ | refine Ix.mapN Qw ?_ | refine Ix.mapN1 Qw ?_ | refine Ix.map Qw ?_ | refine Ix.at Qi Qw ?_ | refine lB (T := tab) ?_ | refine lBA (T := tab) ?_ | refine lM (T := tab) ?_ | refine lM0 (T := tab) ?_ | refine lMA (T := tab) ?_ | refine sM ?_ | refine LK.askW rfl ?_ | refine s1 ?_ | refine sA ?_ | refine Kx.nil ?_ | refine Kx.stp (T := tab) rfl rfl Qs ?_ | refine kA (T := tab) ?_ | (refine Kx.frzR 0 rfl ?_ <;> refine kF (T := tab) ?_) | refine kP (T := tab) ?_ | refine k1 (T := tab) ?_ | refine kB (T := tab) ?_ | refine kL (T := tab) ?_ | refine CK.any false Qk ?_ | refine XK.nil ?_ | refine CK.regX [42, 71] ?_ | refine XK.defer rfl ?_ | refine XK.deferF rfl rfl ?_ | refine ⟨rfl, PanX.of _ Qs ⟨rfl, ?_⟩⟩ | refine KxX.nil ?_ | refine KxX.stp (T := tab) rfl rfl Qs ?_ | exact True.intro | fail))
      (conv => whnf); (refine Nxt.of ((k + 1, t + cheapL p.workers * ((p.duties.getD k default).to_ - (p.duties.getD k default).frm))) [4, 5, 6, 7, 12, 13, 14, 15, 16, 17, 18, 19, 20, 21, 22, 23, 24, 25, 26, 27, 28, 29, 30, 31, 32, 33, 34, 35, 36, 37, 38, 39, 40, 41, 42, 43, 44, 45, 46, 47, 48, 49, 50, 51, 52, 53, 54, 55, 56, 57, 58, 59] Qr Qr Qr ?_ ?_ Qy ?_ <;> (try dsimp only) <;> (try omega))
      exact Qs
  · rw [List.take_of_length_le (by omega), List.take_of_length_le (by omega)] at i2
    repeat' ((conv => whnf) <;> (first | refine Must.mk (fun h => h) ?_ | refine Must.mk (fun _ => rfl) ?_ | refine Must.mk Qw ?_ | refine MW.ok Qw ?_ | intro _ | exact Fin.pure rfl | refine Br.tt ?_ | refine Br.ff ?_ | (refine Br.mk (fun h => ?_) (fun h => ?_) <;> (try simp only [sh] at h) <;> (try first | (exfalso; omega) | exact absurd trivial h | (exfalso; simp at h; done))) | refine Ix.at ‹_› Qw ?_ | refine Ix.mapN Qw ?_ | refine Ix.mapN1 Qw ?_ | refine Ix.map Qw ?_ | refine Ix.at Qi Qw ?_ | (refine XK.call ent42 (uReq_ok _) rfl rfl Ql (fun _ _ hcall => ?_) (fun _ hpan => ?_) <;> (first | obtain ⟨⟨rfl, hb⟩, rfl⟩ := hcall | obtain ⟨rfl, hb⟩ := hpan)) | (refine KxX.call ent42 (uReq_ok _) rfl rfl rfl Ql (fun _ _ hcall => by obtain ⟨⟨rfl, hb⟩, rfl⟩ := hcall; exact Qs) (fun _ _ hcall => ?_) (fun _ hpan => ?_) <;> (first | obtain ⟨⟨rfl, hb⟩, rfl⟩ := hcall | obtain ⟨rfl, hb⟩ := hpan)) | refine lB (T := tab) ?_ | refine lBA (T := tab) ?_ | refine lM (T := tab) ?_ | refine lM0 (T := tab) ?_ | refine lMA (T := tab) ?_ | refine sM ?_ | refine LK.askW rfl ?_ | refine s1 ?_ | refine sA ?_ | refine Kx.nil ?_ | refine Kx.stp (T := tab) rfl rfl Qs ?_ | refine kA (T := tab) ?_ | (refine Kx.frzR 0 rfl ?_ <;> refine kF (T := tab) ?_) | refine kP (T := tab) ?_ | refine k1 (T := tab) ?_ | refine kB (T := tab) ?_ | refine kL (T := tab) ?_ | refine CK.any false Qk ?_ | refine XK.nil ?_ | refine CK.regX [42, 71] ?_ | refine XK.defer rfl ?_ | refine XK.deferF rfl rfl ?_ | refine ⟨rfl, PanX.of _ Qs ⟨rfl, ?_⟩⟩ | refine KxX.nil ?_ | refine KxX.stp (T := tab) rfl rfl Qs ?_ | exact True.intro | fail))
    · conv => whnf
      refine .out _ (by exact Qs) ⟨⟨rfl, ?_⟩, rfl⟩
      rw [hS, ← i2]; exact hb
    · rw [hS, ← i2]; exact hb
end Go.Proofs.YthjllgabmgkocaaGreat
