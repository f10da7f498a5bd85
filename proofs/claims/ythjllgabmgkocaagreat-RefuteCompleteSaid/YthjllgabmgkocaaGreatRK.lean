/-
  What a step says holds for every complete roster without violations below the bound.
  Conditions: those of each theorem.
-/
import Derived.Test.YthjllgabmgkocaaGreatRG5
namespace Go.Proofs.YthjllgabmgkocaaGreat
open Go.E2 Go.Wage
/-- a literal is true in a roster -/
def trueL (ro : List Int) (x : Lt) : Bool := (decide (0 ≤ x.du) && decide (x.du < ro.length)) && (decide (ro.getD x.du.toNat default = x.wk) == x.is)
def holdsC (ro : List Int) (cl : List Lt) : Bool := cl.any (trueL ro)
structure Cmp (p : Pl) (ro : List Int) (b : Int) : Prop where
  v : validP p = true
  rr : isRo p ro = true
  ge : ∀ w ∈ ro, 0 ≤ w
  bad : badP p ro = []
  lt : costP p ro p.duties < b
theorem trueL_neg {ro : List Int} {x : Lt} (h : 0 ≤ x.du ∧ x.du < ro.length) : trueL ro (negL x) = !trueL ro x := by
  unfold trueL negL
  dsimp only
  rw [decide_eq_true h.1, decide_eq_true h.2]
  cases decide (ro.getD x.du.toNat default = x.wk) <;> cases x.is <;> rfl
theorem trueL_rg {ro : List Int} {x : Lt} (h : trueL ro x = true) : 0 ≤ x.du ∧ x.du < ro.length := by
  unfold trueL at h
  simp only [Bool.and_eq_true, decide_eq_true_eq] at h
  exact h.1
theorem holds_f {ro : List Int} {cl : List Lt} (h : holdsC ro cl = false) : ∀ x ∈ cl, trueL ro x = false := by
  unfold holdsC at h
  rw [List.any_eq_false] at h
  exact fun x hx => Bool.eq_false_iff.2 (h x hx)
theorem denL_par {ro : List Int} : ∀ {cl : List Lt} {r r' : List Int}, denL cl r = some r' → (∀ x ∈ cl, trueL ro x = false ∧ 0 ≤ x.du ∧ x.du < ro.length) → Par ro r → Par ro r'
  | [], r, r', h, _, hp => by rw [denL] at h; injection h with h; rw [← h]; exact hp
  | l :: cl, r, r', h, ht, hp => by
    rw [denL] at h
    split at h
    · rename_i hc
      refine denL_par h (fun x hx => ht x (by simp [hx])) ?_
      obtain ⟨h1, h2, h3⟩ := ht l (by simp)
      simp only [Bool.and_eq_true, Bool.not_eq_true'] at hc
      unfold trueL at h1
      rw [decide_eq_true h2, decide_eq_true h3, hc.1] at h1
      have h4 : ro.getD l.du.toNat default = l.wk := by
        apply Classical.byContradiction
        intro hn
        rw [decide_eq_false hn] at h1
        cases h1
      refine ⟨by rw [List.length_set]; exact hp.1, fun k => ?_⟩
      by_cases e : l.du.toNat = k
      · left
        rw [← e, h4]
        have : l.du.toNat < r.length := by rw [hp.1]; omega
        simp [List.getD, this]
      · have : (r.set l.du.toNat l.wk).getD k default = r.getD k default := by simp [List.getD, e]
        rw [this]; exact hp.2 k
    · cases h
theorem par_rep (ro : List Int) : Par ro (List.replicate ro.length (-1)) := by
  refine ⟨by simp, fun k => ?_⟩
  by_cases h : k < ro.length
  · right; simp [List.getD, h]
  · left; simp [List.getD, h]
theorem denS_par {p : Pl} {s : Sg} {ro r : List Int} (hl : ro.length = p.duties.length) (hp : s.cl.all (properB p) = true) (hf : ∀ x ∈ s.cl, trueL ro x = false) (h : denS p s = some r) : Par ro r := by
  unfold denS at h
  split at h
  · refine denL_par h (fun x hx => ⟨hf x hx, ?_⟩) (hl ▸ par_rep ro)
    have := properB_iff.1 (List.all_eq_true.1 hp x hx)
    omega
  · cases h
theorem ro_posR {p : Pl} {ro : List Int} (hv : validP p = true) (hr : isRo p ro = true) (w : Nat) : posT (trip p (mineR ro w)) := by
  have hl := (isRo_iff.1 hr).1
  have h24 := (validP_iff.1 hv).2.1
  refine (tri_of hv (fun d hd => ?_) (by have := mineR_len ro w; omega)).pos
  have := mineR_lt hd
  exact List.all_eq_true.1 (validP_iff.1 hv).2.2.2.1 _ (gAt (by omega))
theorem bad_sound {p : Pl} {s : Sg} {ro : List Int} {b : Int} (h : Cmp p ro b) (hp : s.cl.all (properB p) = true) (hb : badS p s = true) : holdsC ro s.cl = true := by
  apply Classical.byContradiction
  intro hn
  have hf := holds_f (Bool.eq_false_iff.2 hn)
  unfold badS at hb
  cases hd : denS p s with
  | none => rw [hd] at hb; cases hb
  | some r =>
    rw [hd] at hb
    have hpar := denS_par (isRo_iff.1 h.rr).1 hp hf hd
    exact violB_iff.1 hb (hpar.bad (fun w _ => ro_posR h.v h.rr w) h.bad)
theorem cheap_le : ∀ {l : List Wk} {w : Wk}, w ∈ l → cheapL l ≤ w.wage
  | [], _, h => by cases h
  | x :: l, w, h => by
    have key : ∀ (l : List Wk) (c : Int), (l.foldl (fun c x => if x.wage < c then x.wage else c) c ≤ c) ∧ ∀ w ∈ l, l.foldl (fun c x => if x.wage < c then x.wage else c) c ≤ w.wage := by
      intro l
      induction l with
      | nil => intro c; exact ⟨Int.le_refl _, by simp⟩
      | cons x l ih =>
        intro c
        rw [List.foldl_cons]
        have := ih (if x.wage < c then x.wage else c)
        refine ⟨?_, fun w hw => ?_⟩
        · have h1 := this.1
          split at h1
          · rename_i hh; rw [if_pos hh]; omega
          · rename_i hh; rw [if_neg hh]; omega
        · rcases List.mem_cons.1 hw with rfl | hw
          · have h1 := this.1
            split at h1
            · rename_i hh; rw [if_pos hh]; omega
            · rename_i hh; rw [if_neg hh]; omega
          · exact this.2 w hw
    rcases List.mem_cons.1 h with rfl | h
    · exact (key l w.wage).1
    · exact (key l x.wage).2 w h
theorem full_le {p : Pl} {ro r : List Int} (hv : validP p = true) (hr : isRo p ro = true) (hg : ∀ w ∈ ro, 0 ≤ w) (hp : Par ro r) : fullP p r p.duties ≤ costP p ro p.duties := by
  have hl := (isRo_iff.1 hr).1
  have hrl := hp.1
  have key : ∀ n, n ≤ ro.length → fullP p (r.take n) (p.duties.take n) ≤ costP p (ro.take n) (p.duties.take n) := by
    intro n
    induction n with
    | zero => intro _; simp [fullP, costP]
    | succ n ih =>
      intro hn
      have i1 := ih (by omega)
      rw [take_snoc (l := r) (by omega), take_snoc (l := ro) (by omega), take_snoc (l := p.duties) (by omega), fullP_snoc p _ _ (by simp; omega), costP_snoc p _ _ (by simp; omega)]
      have hd := duB_bd (dutyOk.b (List.all_eq_true.1 (validP_iff.1 hv).2.2.2.1 _ (gAt (show n < p.duties.length by omega))))
      have h0 := hg _ (gAt (show n < ro.length by omega))
      have h1 := (isRo_iff.1 hr).2 _ (gAt (show n < ro.length by omega))
      have hm : p.workers.getD (ro.getD n default).toNat default ∈ p.workers := gAt (by omega)
      have : termF p (r.getD n default) (p.duties.getD n default) ≤ termC p (ro.getD n default) (p.duties.getD n default) := by
        unfold termF termC
        rw [if_pos h0]
        rcases hp.2 n with e | e
        · rw [e, if_pos h0]; exact Int.le_refl _
        · rw [e, if_neg (by omega)]
          exact Int.mul_le_mul_of_nonneg_right (cheap_le hm) (by omega)
      omega
  have := key ro.length (Nat.le_refl _)
  rwa [List.take_of_length_le (by omega), List.take_of_length_le (by omega), List.take_of_length_le (by omega)] at this
theorem cost_sound {p : Pl} {s : Sg} {ro : List Int} {b : Int} (h : Cmp p ro b) (hp : s.cl.all (properB p) = true) (hb : costS p b s = true) : holdsC ro s.cl = true := by
  apply Classical.byContradiction
  intro hn
  have hf := holds_f (Bool.eq_false_iff.2 hn)
  unfold costS at hb
  cases hd : denS p s with
  | none => rw [hd] at hb; cases hb
  | some r =>
    rw [hd] at hb
    simp only [decide_eq_true_eq] at hb
    have hpar := denS_par (isRo_iff.1 h.rr).1 hp hf hd
    have := full_le h.v h.rr h.ge hpar
    have := h.lt
    omega
theorem unitF_sound {ro : List Int} {log : List Sg} : ∀ (ks : List Int) (held : List Lt), (∀ k ∈ ks, holdsC ro (log.getD k.toNat default).cl = true) → (∀ x ∈ held, trueL ro x = true) → unitF log ks held = false
  | [], _, _, _ => rfl
  | k :: ks, held, h, hh => by
    have h1 := h k (by simp)
    unfold holdsC at h1
    rw [List.any_eq_true] at h1
    obtain ⟨x, hx, hx1⟩ := h1
    have hm : x ∈ openL held (log.getD k.toNat default).cl := by
      unfold openL
      rw [List.mem_filter]
      refine ⟨hx, ?_⟩
      rw [Bool.not_eq_true', List.contains_eq_mem, decide_eq_false_iff_not]
      intro hn
      have := hh _ hn
      rw [trueL_neg (trueL_rg hx1), hx1] at this
      cases this
    rw [unitF, if_neg (fun e => by rw [e] at hm; cases hm)]
    by_cases hs : sameL (openL held (log.getD k.toNat default).cl) = true
    · rw [hs, Bool.true_and]
      refine unitF_sound ks _ (fun j hj => h j (by simp [hj])) fun y hy => ?_
      rcases List.mem_cons.1 hy with rfl | hy
      · unfold sameL at hs
        have := List.all_eq_true.1 hs x hm
        rw [decide_eq_true_eq] at this
        rw [← this]
        exact hx1
      · exact hh y hy
    · rw [Bool.eq_false_iff.2 hs, Bool.false_and]
theorem unit_sound {p : Pl} {log : List Sg} {k : Nat} {s : Sg} {ro : List Int} {b : Int} (h : Cmp p ro b) (hp : s.cl.all (properB p) = true) (hu : unitB log k s = true) (ih : ∀ j, j < k → holdsC ro (log.getD j default).cl = true) : holdsC ro s.cl = true := by
  apply Classical.byContradiction
  intro hn
  have hf := holds_f (Bool.eq_false_iff.2 hn)
  unfold unitB at hu
  rw [Bool.and_eq_true_iff] at hu
  have hl := (isRo_iff.1 h.rr).1
  have := unitF_sound (ro := ro) (log := log) s.frm (s.cl.map negL) (fun j hj => ?_) fun x hx => ?_
  · rw [hu.2] at this; cases this
  · have := List.all_eq_true.1 hu.1 j hj
    simp only [Bool.and_eq_true, decide_eq_true_eq] at this
    exact ih _ (by omega)
  · obtain ⟨y, hy, rfl⟩ := List.mem_map.1 hx
    have hpy := properB_iff.1 (List.all_eq_true.1 hp y hy)
    rw [trueL_neg (by omega), hf y hy]
    rfl
theorem some_sound {p : Pl} {s : Sg} {ro : List Int} {b : Int} (h : Cmp p ro b) (hp : s.cl.all (properB p) = true) (hb : someB p s = true) : holdsC ro s.cl = true := by
  unfold someB at hb
  simp only [Bool.and_eq_true, decide_eq_true_eq, List.all_eq_true] at hb
  obtain ⟨⟨⟨_, h1⟩, h2⟩, h3⟩ := hb
  have hri := isRo_iff.1 h.rr
  have hw0 : 0 < p.workers.length := by
    have a := h.ge _ (gAt (show 0 < ro.length by omega))
    have b := hri.2 _ (gAt (show 0 < ro.length by omega))
    omega
  have hp0 := properB_iff.1 (List.all_eq_true.1 hp _ (gAt (show 0 < s.cl.length by omega)))
  generalize hd : (s.cl.getD 0 default).du = d at *
  have hdl : d.toNat < ro.length := by omega
  have a := h.ge _ (gAt hdl)
  have b := hri.2 _ (gAt hdl)
  have h4 := h3 (ro.getD d.toNat default).toNat (List.mem_range.2 (by omega))
  unfold rowB at h4
  rw [decide_eq_true_eq, hd] at h4
  unfold holdsC
  rw [List.any_eq_true]
  refine ⟨_, gAt (show (ro.getD d.toNat default).toNat < s.cl.length by omega), ?_⟩
  rw [h4]
  unfold trueL
  dsimp only
  rw [decide_eq_true (show 0 ≤ d by omega), decide_eq_true (show d < ro.length by omega), decide_eq_true (by omega)]
  rfl
theorem one_sound {p : Pl} {s : Sg} {ro : List Int} {b : Int} (h : Cmp p ro b) (hp : s.cl.all (properB p) = true) (hb : oneB s = true) : holdsC ro s.cl = true := by
  unfold oneB at hb
  simp only [Bool.and_eq_true, decide_eq_true_eq, Bool.not_eq_true'] at hb
  obtain ⟨⟨_, h1⟩, ⟨⟨h2, h3⟩, h4⟩, h5⟩ := hb
  apply Classical.byContradiction
  intro hn
  have hf := holds_f (Bool.eq_false_iff.2 hn)
  have hl := (isRo_iff.1 h.rr).1
  have m0 : s.cl.getD 0 default ∈ s.cl := gAt (by omega)
  have m1 : s.cl.getD 1 default ∈ s.cl := gAt (by omega)
  have f0 := hf _ m0
  have f1 := hf _ m1
  have p0 := properB_iff.1 (List.all_eq_true.1 hp _ m0)
  have p1 := properB_iff.1 (List.all_eq_true.1 hp _ m1)
  unfold trueL at f0 f1
  rw [h2, decide_eq_true (by omega), decide_eq_true (by omega)] at f0
  rw [h3, decide_eq_true (by omega), decide_eq_true (by omega)] at f1
  rw [← h4] at f1
  have e0 : ro.getD (s.cl.getD 0 default).du.toNat default = (s.cl.getD 0 default).wk := by
    apply Classical.byContradiction; intro hn; rw [decide_eq_false hn] at f0; cases f0
  have e1 : ro.getD (s.cl.getD 0 default).du.toNat default = (s.cl.getD 1 default).wk := by
    apply Classical.byContradiction; intro hn; rw [decide_eq_false hn] at f1; cases f1
  omega
theorem foll_sound {p : Pl} {b : Int} {log : List Sg} {ro : List Int} (h : Cmp p ro b) : ∀ (n k : Nat), k < n → (∀ j, j < n → follB p b log j = true) → holdsC ro (log.getD k default).cl = true
  | 0, k, hk, _ => by omega
  | n + 1, k, hk, hf => by
    rcases Nat.lt_or_eq_of_le (Nat.lt_succ_iff.1 hk) with hlt | rfl
    · exact foll_sound h n k hlt fun j hj => hf j (by omega)
    have ih := fun j (hj : j < k) => foll_sound h k j hj fun j hj => hf j (by omega)
    have h1 := hf k (by omega)
    unfold follB at h1
    rw [Bool.and_eq_true_iff] at h1
    obtain ⟨hp, hr⟩ := h1
    unfold ruleB at hr
    split at hr
    · exact some_sound h hp hr
    split at hr
    · exact one_sound h hp hr
    split at hr
    · exact bad_sound h hp hr
    split at hr
    · exact cost_sound h hp hr
    split at hr
    · exact unit_sound h hp hr ih
    · cases hr
end Go.Proofs.YthjllgabmgkocaaGreat
