/-
  Texts DL0, DO.
  Conditions: those of each theorem.
-/
import Derived.Test.YtjfnkmlnbaianaaGreatDK
namespace Go.Proofs.YtjfnkmlnbaianaaGreat
open Go.E2 Go.Wage
theorem putR_mem {n : Nat} {w x : Int} {ds : List Nat} (h : x ∈ putR n w ds) : x = -1 ∨ x = w := by
 have key : ∀ (ds : List Nat) (r : List Int), (∀ x ∈ r, x = -1 ∨ x = w) → ∀ x ∈ ds.foldl (fun r d => r.set d w) r, x = -1 ∨ x = w := by
  intro ds
  induction ds with
  | nil => intro r h; exact h
  | cons d ds ih =>
   intro r h
   rw [List.foldl_cons]
   refine ih _ fun x hx => ?_
   rcases List.mem_or_eq_of_mem_set hx with hx | rfl
   ·exact h x hx
   ·exact .inr rfl
 exact key ds _ (fun x hx => .inl (List.eq_of_mem_replicate hx)) x h
theorem putR_mine {n : Nat} {w u : Nat} {ds : List Nat} (h : u ≠ w) : mineR (putR n w ds) u = [] := by
 unfold mineR
 rw [List.filter_eq_nil_iff]
 intro i hi
 rw [decide_eq_true_eq]
 intro e
 rw [List.mem_range] at hi
 have hm : (putR n w ds).getD i default ∈ putR n w ds := by rw [getD_at' hi]; exact List.getElem_mem _
 rcases putR_mem hm with h1 | h1 <;> omega
theorem violW_nil (p : Pl) (u : Nat) : violW p u [] = [] := by
 simp [violW, sing, restL, trip, weekL, minL]
theorem bad_put {p : Pl} {w : Nat} (hw : w < p.workers.length) (ds : List Nat) : badP p (putR p.duties.length w ds) = [] ↔ badW p w ds = false := by
 rw [badP_nil]
 unfold badW
 rw [Bool.not_eq_false', List.isEmpty_iff]
 constructor
 ·intro h; exact h w hw
 ·intro h u hu
  by_cases e : u = w
  ·rw [e]; exact h
  ·rw [putR_mine e]; exact violW_nil p u
end Go.Proofs.YtjfnkmlnbaianaaGreat
namespace Go.Proofs.YtjfnkmlnbaianaaGreat
open Go.E2 Go.Wage
def trueL (ro : List Int) (x : Lt) : Bool := (decide (0 ≤ x.du) && decide (x.du < ro.length)) && (decide (ro.getD x.du.toNat default = x.wk) == x.is)
def holdsC (ro : List Int) (cl : List Lt) : Bool := cl.any (trueL ro)
theorem ro_posR {p : Pl} {ro : List Int} (hv : validP p = true) (hr : isRo p ro = true) (w : Nat) : posT (trip p (mineR ro w)) := by
 have hl := (isRo_iff.1 hr).1
 have h24 := (validP_iff.1 hv).2.1
 refine (tri_of hv (fun d hd => ?_) (by have := mineR_len ro w; omega)).pos
 have := mineR_lt hd
 exact List.all_eq_true.1 (validP_iff.1 hv).2.2.2.1 _ (getD_mem (by omega))
theorem seqL_mem {α : Type} {f : Nat → List α} {n : Nat} {x : α} : x ∈ seqL f n ↔ ∃ i, i < n ∧ x ∈ f i := by
 unfold seqL
 rw [List.mem_flatMap]
 simp only [List.mem_range]
theorem aftL_mem {α : Type} {f : Nat → List α} {a b : Nat} {x : α} : x ∈ aftL f a b ↔ ∃ i, a < i ∧ i < b ∧ x ∈ f i := by
 unfold aftL
 rw [List.mem_flatMap]
 constructor
 ·rintro ⟨i, h1, h2⟩
  rw [List.mem_range'_1] at h1
  exact ⟨i, by omega, by omega, h2⟩
 ·rintro ⟨i, h1, h2, h3⟩
  exact ⟨i, List.mem_range'_1.2 (by omega), h3⟩
theorem base_mem {p : Pl} (hv : validP p = true) {s : Sg} : s ∈ baseP p ↔
  (∃ d, d < p.duties.length ∧ s = ⟨yesS d p.workers.length, 1, []⟩) ∨
  (∃ d v w : Nat, d < p.duties.length ∧ v < w ∧ w < p.workers.length ∧ s = ⟨[⟨(d : Int), (v : Int), false⟩, ⟨(d : Int), (w : Int), false⟩], 2, []⟩) ∨
  (∃ w d : Nat, w < p.workers.length ∧ d < p.duties.length ∧ badW p w [d] = true ∧ s = ⟨[⟨(d : Int), (w : Int), false⟩], 3, []⟩) ∨
  (∃ w d e : Nat, w < p.workers.length ∧ d < e ∧ e < p.duties.length ∧ badW p w [d] = false ∧ badW p w [e] = false ∧ badW p w [d, e] = true ∧ s = ⟨[⟨(d : Int), (w : Int), false⟩, ⟨(e : Int), (w : Int), false⟩], 3, []⟩) := by
 unfold baseP exP
 rw [if_pos hv]
 simp only [List.mem_append, seqL_mem, aftL_mem, List.mem_singleton, oneS, aloS, twoS]
 constructor
 ·rintro (((⟨d, h1, h2⟩ | ⟨d, h1, v, h2, w, h3, h4, h5⟩) | ⟨w, h1, d, h2, h3⟩) | ⟨w, h1, d, h2, e, h3, h4, h5⟩)
  ·exact .inl ⟨d, h1, h2⟩
  ·exact .inr (.inl ⟨d, v, w, h1, h3, h4, h5⟩)
  ·split at h3
   ·rename_i h
    rw [List.mem_singleton] at h3
    exact .inr (.inr (.inl ⟨w, d, h1, h2, h, h3⟩))
   ·cases h3
  ·split at h5
   ·rename_i h
    rw [List.mem_singleton] at h5
    simp only [Bool.and_eq_true, Bool.not_eq_true'] at h
    exact .inr (.inr (.inr ⟨w, d, e, h1, h3, h4, h.1.1, h.1.2, h.2, h5⟩))
   ·cases h5
 ·rintro (⟨d, h1, h2⟩ | ⟨d, v, w, h1, h2, h3, h4⟩ | ⟨w, d, h1, h2, h3, h4⟩ | ⟨w, d, e, h1, h2, h3, h4, h5, h6, h7⟩)
  ·exact .inl (.inl (.inl ⟨d, h1, h2⟩))
  ·exact .inl (.inl (.inr ⟨d, h1, v, by omega, w, h2, h3, h4⟩))
  ·exact .inl (.inr ⟨w, h1, d, h2, by rw [if_pos h3, List.mem_singleton]; exact h4⟩)
  ·refine .inr ⟨w, h1, d, by omega, e, h2, h3, ?_⟩
   rw [h4, h5, h6, if_pos (by rfl), List.mem_singleton]
   exact h7
theorem putR_get {n : Nat} {w : Int} : ∀ {ds : List Nat} {k : Nat}, (∀ d ∈ ds, d < n) → k < n → (putR n w ds).getD k default = if k ∈ ds then w else -1 := by
 refine fun {ds k} hd hk => ?_
 unfold putR
 have key : ∀ (ds : List Nat) (r : List Int), r.length = n → (∀ d ∈ ds, d < n) → (ds.foldl (fun r d => r.set d w) r).getD k default = if k ∈ ds then w else r.getD k default := by
  intro ds
  induction ds with
  | nil => intro r _ _; simp
  | cons d ds ih =>
   intro r hr hd
   rw [List.foldl_cons, ih _ (by rw [List.length_set]; exact hr) fun x hx => hd x (by simp [hx])]
   have hdn := hd d (by simp)
   by_cases h1 : k ∈ ds
   ·simp [h1]
   ·rw [if_neg h1]
    by_cases h2 : d = k
    ·subst h2
     simp [List.getD, hr, hdn]
    ·have : ¬ k ∈ d :: ds := by simp [h1, Ne.symm h2]
     rw [if_neg this]
     simp [List.getD, h2]
 rw [key ds _ (by simp) hd]
 simp [List.getD, hk]
theorem putR_mine' {n : Nat} {w : Nat} {ds : List Nat} (hd : ∀ d ∈ ds, d < n) {k : Nat} : k ∈ mineR (putR n w ds) w ↔ k ∈ ds := by
 unfold mineR
 rw [List.mem_filter, List.mem_range, putR_len, decide_eq_true_eq]
 constructor
 ·rintro ⟨h1, h2⟩
  rw [putR_get hd h1] at h2
  split at h2
  ·assumption
  ·omega
 ·intro h
  refine ⟨hd k h, ?_⟩
  rw [putR_get hd (hd k h), if_pos h]
theorem putR_par {ro : List Int} {w : Nat} {ds : List Nat} (hd : ∀ d ∈ ds, d < ro.length) (hw : ∀ d ∈ ds, ro.getD d default = w) : Par ro (putR ro.length w ds) := by
 refine ⟨putR_len _ _ _, fun k => ?_⟩
 by_cases hk : k < ro.length
 ·rw [putR_get hd hk]
  split
  ·rename_i h; left; rw [hw k h]
  ·exact .inr rfl
 ·left
  have h1 : (putR ro.length w ds).length ≤ k := by rw [putR_len]; omega
  have h2 : ro.length ≤ k := by omega
  simp [List.getD, List.getElem?_eq_none h1, List.getElem?_eq_none h2]
theorem badW_no {p : Pl} {ro : List Int} (hv : validP p = true) (hr : isRo p ro = true) (hb : badP p ro = []) {w : Nat} (hw : w < p.workers.length) {ds : List Nat} (hd : ∀ d ∈ ds, d < p.duties.length ∧ ro.getD d default = w) : badW p w ds = false := by
 have hl := (isRo_iff.1 hr).1
 have h1 := putR_par (ro := ro) (w := w) (ds := ds) (fun d h => by have := (hd d h).1; omega) fun d h => (hd d h).2
 have h2 := h1.bad (fun w _ => ro_posR hv hr w) hb
 rw [hl] at h2
 exact (bad_put hw ds).1 h2
structure FullR (p : Pl) (ro : List Int) : Prop where
 rr : isRo p ro = true
 ge : ∀ w ∈ ro, 0 ≤ w
theorem FullR.at {p : Pl} {ro : List Int} (h : FullR p ro) {d : Nat} (hd : d < p.duties.length) : ∃ w : Nat, ro.getD d default = w ∧ w < p.workers.length := by
 have h1 := isRo_iff.1 h.rr
 have hm : ro.getD d default ∈ ro := getD_mem (by omega)
 have h2 := h1.2 _ hm
 have h3 := h.ge _ hm
 exact ⟨(ro.getD d default).toNat, by omega, by omega⟩
theorem trueL_no {ro : List Int} {d w : Nat} (hd : d < ro.length) : trueL ro ⟨(d : Int), (w : Int), false⟩ = !decide (ro.getD d default = (w : Int)) := by
 unfold trueL
 dsimp only
 rw [decide_eq_true (by omega), decide_eq_true (by omega), Int.toNat_natCast]
 cases decide (ro.getD d default = (w : Int)) <;> rfl
theorem trueL_yes {ro : List Int} {d w : Nat} (hd : d < ro.length) : trueL ro ⟨(d : Int), (w : Int), true⟩ = decide (ro.getD d default = (w : Int)) := by
 unfold trueL
 dsimp only
 rw [decide_eq_true (by omega), decide_eq_true (by omega), Int.toNat_natCast]
 cases decide (ro.getD d default = (w : Int)) <;> rfl
theorem holds_or {ro : List Int} {cl : List Lt} : holdsC ro cl = true ↔ ∃ x ∈ cl, trueL ro x = true := by
 unfold holdsC
 rw [List.any_eq_true]
theorem base_holds {p : Pl} {ro : List Int} (hv : validP p = true) (hf : FullR p ro) (hb : badP p ro = []) : ∀ s ∈ baseP p, holdsC ro s.cl = true := by
 have hl := (isRo_iff.1 hf.rr).1
 intro s hs
 rcases (base_mem hv).1 hs with ⟨d, h1, rfl⟩ | ⟨d, v, w, h1, h2, h3, rfl⟩ | ⟨w, d, h1, h2, h3, rfl⟩ | ⟨w, d, e, h1, h2, h3, h4, h5, h6, rfl⟩
 ·obtain ⟨w, e1, e2⟩ := hf.at h1
  refine holds_or.2 ⟨⟨(d : Int), (w : Int), true⟩, ?_, ?_⟩
  ·unfold yesS
   exact List.mem_map.2 ⟨w, List.mem_range.2 e2, rfl⟩
  ·rw [trueL_yes (by omega), decide_eq_true e1]
 ·dsimp only
  by_cases e : ro.getD d default = (v : Int)
  ·refine holds_or.2 ⟨⟨(d : Int), (w : Int), false⟩, by simp, ?_⟩
   rw [trueL_no (by omega), decide_eq_false (by omega)]
   rfl
  ·refine holds_or.2 ⟨⟨(d : Int), (v : Int), false⟩, by simp, ?_⟩
   rw [trueL_no (by omega), decide_eq_false e]
   rfl
 ·dsimp only
  refine holds_or.2 ⟨⟨(d : Int), (w : Int), false⟩, by simp, ?_⟩
  rw [trueL_no (by omega), decide_eq_false fun e => ?_]
  ·rfl
  ·have := badW_no hv hf.rr hb h1 (ds := [d]) fun x hx => by rw [List.mem_singleton] at hx; subst hx; exact ⟨h2, e⟩
   rw [h3] at this
   cases this
 ·dsimp only
  by_cases e1 : ro.getD d default = (w : Int)
  ·refine holds_or.2 ⟨⟨(e : Int), (w : Int), false⟩, by simp, ?_⟩
   rw [trueL_no (by omega), decide_eq_false fun e2 => ?_]
   ·rfl
   ·have := badW_no hv hf.rr hb h1 (ds := [d, e]) fun x hx => by
     simp only [List.mem_cons, List.not_mem_nil, or_false] at hx
     rcases hx with rfl | rfl
     ·exact ⟨by omega, e1⟩
     ·exact ⟨h3, e2⟩
    rw [h6] at this
    cases this
  ·refine holds_or.2 ⟨⟨(d : Int), (w : Int), false⟩, by simp, ?_⟩
   rw [trueL_no (by omega), decide_eq_false e1]
   rfl
theorem pw_lt {R : Nat → Nat → Prop} : ∀ {l : List Nat}, l.Pairwise (· < ·) → l.Pairwise R → ∀ d ∈ l, ∀ e ∈ l, d < e → R d e
 | [], _, _, d, hd, _, _, _ => by cases hd
 | x :: l, h1, h2, d, hd, e, he, hde => by
  rw [List.pairwise_cons] at h1 h2
  rcases List.mem_cons.1 hd with hd | hd
  ·subst hd
   rcases List.mem_cons.1 he with he | he
   ·omega
   ·exact h2.1 e he
  ·rcases List.mem_cons.1 he with he | he
   ·have := h1.1 d hd; omega
   ·exact pw_lt h1.2 h2.2 d hd e he hde
theorem mineR_sorted (ro : List Int) (w : Int) : (mineR ro w).Pairwise (· < ·) := List.pairwise_lt_range.filter _
theorem restL_mem {p : Pl} {w : Int} {v : Vi} : ∀ {l : List Nat}, l.Pairwise (· < ·) → v ∈ restL p w l → ∃ d e, d ∈ l ∧ e ∈ l ∧ d < e ∧ restB p d e = true
 | [], _, h => by cases h
 | d :: l, hl, h => by
  rw [List.pairwise_cons] at hl
  rw [restL, List.mem_append] at h
  rcases h with h | h
  ·obtain ⟨e, he, rfl⟩ := List.mem_map.1 h
   rw [List.mem_filter] at he
   exact ⟨d, e, by simp, by simp [he.1], hl.1 e he.1, he.2⟩
  ·obtain ⟨a, b, h1, h2, h3, h4⟩ := restL_mem hl.2 h
   exact ⟨a, b, by simp [h1], by simp [h2], h3, h4⟩
theorem badW_iff {p : Pl} {w : Nat} {ds : List Nat} : badW p w ds = false ↔ Go.Wage.violW p w (mineR (putR p.duties.length w ds) w) = [] := by
 unfold badW
 rw [Bool.not_eq_false', List.isEmpty_iff]
theorem sing_mem {k w : Int} {f : Nat → Bool} {l : List Nat} {v : Vi} (h : v ∈ sing k w f l) : v.kind = k ∧ ∃ d ∈ l, f d = true := by
 unfold sing at h
 obtain ⟨d, hd, rfl⟩ := List.mem_map.1 h
 rw [List.mem_filter] at hd
 exact ⟨rfl, d, hd.1, hd.2⟩
theorem week_kind {p : Pl} {w : Int} {T : Tri} {v : Vi} (h : v ∈ weekL p w T) : v.kind = 4 := by
 unfold weekL at h
 obtain ⟨d, _, rfl⟩ := List.mem_map.1 h
 rfl
theorem min_kind {p : Pl} {w : Int} {T : Tri} {v : Vi} (h : v ∈ minL p w T) : v.kind = 6 := by
 unfold minL at h
 obtain ⟨d, _, rfl⟩ := List.mem_map.1 h
 rfl
theorem mine_at {ro : List Int} {w : Int} {d : Nat} (h : d ∈ mineR ro w) : ro.getD d default = w := by
 unfold mineR at h
 rw [List.mem_filter, decide_eq_true_eq] at h
 exact h.2
theorem base_fails {p : Pl} {ro : List Int} (hv : validP p = true) (hr : isRo p ro = true) {v : Vi} (hm : v ∈ badP p ro) (h4 : v.kind ≠ 4) (h6 : v.kind ≠ 6) : ∃ s ∈ baseP p, holdsC ro s.cl = false := by
 have hl := (isRo_iff.1 hr).1
 have hva := canV_mem.1 hm
 unfold violAll at hva
 obtain ⟨w, hw, hvw⟩ := List.mem_flatMap.1 hva
 rw [List.mem_range] at hw
 have one : ∀ d ∈ mineR ro w, badW p w [d] = true → ∃ s ∈ baseP p, holdsC ro s.cl = false := fun d hd hb => by
  have hdl := mineR_lt hd
  refine ⟨_, (base_mem hv).2 (.inr (.inr (.inl ⟨w, d, hw, by omega, hb, rfl⟩))), ?_⟩
  have := trueL_no (w := w) hdl
  rw [mine_at hd, decide_eq_true rfl] at this
  simp [holdsC, this]
 have single : ∀ d ∈ mineR ro w, (Go.Wage.violW p w (mineR (putR p.duties.length w [d]) w) = [] → False) → ∃ s ∈ baseP p, holdsC ro s.cl = false := fun d hd hb => by
  refine one d hd ?_
  cases hx : badW p w [d] with
  | true => rfl
  | false => exact (hb (badW_iff.1 hx)).elim
 have inm : ∀ d ∈ mineR ro w, d ∈ mineR (putR p.duties.length w [d]) w := fun d hd => (putR_mine' fun x hx => by
  rw [List.mem_singleton] at hx
  have := mineR_lt hd
  omega).2 (by simp)
 unfold Go.Wage.violW at hvw
 simp only [List.mem_append] at hvw
 rcases hvw with h | h | h | h | h | h
 ·obtain ⟨_, d, hd, hf⟩ := sing_mem h
  refine single d hd fun h0 => ?_
  have := (Go.Wage.violW_nil.1 h0).1 d (inm d hd)
  rw [hf] at this
  cases this
 ·obtain ⟨_, d, hd, hf⟩ := sing_mem h
  refine single d hd fun h0 => ?_
  have := (Go.Wage.violW_nil.1 h0).2.1 d (inm d hd)
  rw [hf] at this
  cases this
 ·obtain ⟨d, e, hd, he, hde, hf⟩ := restL_mem (mineR_sorted ro w) h
  have hdl := mineR_lt hd
  have hel := mineR_lt he
  cases hx : badW p w [d] with
  | true => exact one d hd hx
  | false =>
   cases hy : badW p w [e] with
   | true => exact one e he hy
   | false =>
    have hds : ∀ x ∈ [d, e], x < p.duties.length := fun x hx => by
     simp only [List.mem_cons, List.not_mem_nil, or_false] at hx
     omega
    have hb : badW p w [d, e] = true := by
     cases hz : badW p w [d, e] with
     | true => rfl
     | false =>
      have h0 := badW_iff.1 hz
      have := pw_lt (mineR_sorted _ _) (Go.Wage.violW_nil.1 h0).2.2.1 d ((putR_mine' hds).2 (by simp)) e ((putR_mine' hds).2 (by simp)) hde
      rw [hf] at this
      cases this
    refine ⟨_, (base_mem hv).2 (.inr (.inr (.inr ⟨w, d, e, hw, hde, by omega, hx, hy, hb, rfl⟩))), ?_⟩
    have h1 := trueL_no (w := w) hdl
    have h2 := trueL_no (w := w) hel
    rw [mine_at hd, decide_eq_true rfl] at h1
    rw [mine_at he, decide_eq_true rfl] at h2
    simp [holdsC, h1, h2]
 ·exact (h4 (week_kind h)).elim
 ·split at h
  ·rename_i hmi
   obtain ⟨_, d, hd, hf⟩ := sing_mem h
   refine single d hd fun h0 => ?_
   have := (Go.Wage.violW_nil.1 h0).2.2.2.2.1 hmi d (inm d hd)
   rw [hf] at this
   cases this
  ·cases h
 ·split at h
  ·exact (h6 (min_kind h)).elim
  ·cases h
end Go.Proofs.YtjfnkmlnbaianaaGreat
