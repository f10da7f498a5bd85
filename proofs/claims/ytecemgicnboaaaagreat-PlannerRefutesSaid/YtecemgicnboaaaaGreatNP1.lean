/-
  What a step says holds for every workable roster below the bound; steps that are accepted.
  Conditions: those of each theorem.
-/
import Derived.Test.YtecemgicnboaaaaGreatRV
import Derived.Test.YtecemgicnboaaaaGreatGQ
namespace Go.Proofs.YtecemgicnboaaaaGreat
open Go.E2 Go.Wage
theorem take_snoc {α : Type} [Inhabited α] {l : List α} {k : Nat} (h : k < l.length) : l.take (k + 1) = l.take k ++ [l.getD k default] := by
  rw [List.take_succ_eq_append_getElem h]
  simp [List.getD, h]
theorem dutyOk.b {p : Pl} {d : Du} (h : dutyOk p d = true) : duB d = true := by
  unfold dutyOk at h
  exact (Bool.and_eq_true_iff.1 h).1
theorem gAt {α : Type} [Inhabited α] {l : List α} {k : Nat} (h : k < l.length) : l.getD k default ∈ l := getD_mem h
theorem dropG {α : Type} [Inhabited α] {l : List α} {k : Nat} (h : k < l.length) : l.drop k = l.getD k default :: l.drop (k + 1) := by
  rw [List.drop_eq_getElem_cons h]
  simp [List.getD, h]
theorem eqLt (x y : Lt) : (decide (x.du = y.du) && (decide (x.wk = y.wk) && ((x.is == y.is) && true))) = decide (x = y) := by
  rw [Bool.eq_iff_iff]
  simp only [Bool.and_eq_true, decide_eq_true_eq, beq_iff_eq, and_true]
  constructor
  · intro h; cases x; cases y; simp_all
  · rintro rfl; simp
theorem all_succ {n : Nat} {f : Nat → Bool} (h : (List.range n).all f = true) (hf : f n = true) : (List.range (n + 1)).all f = true := by
  rw [List.range_succ, List.all_append, h, List.all_cons, hf]; rfl
theorem all_fail {n k : Nat} {f : Nat → Bool} (hk : k < n) (hf : f k = false) : (List.range n).all f = false :=
  List.all_eq_false.2 ⟨k, List.mem_range.2 hk, by rw [hf]; simp⟩
theorem denL_len : ∀ {cl : List Lt} {ro r : List Int}, denL cl ro = some r → r.length = ro.length
  | [], ro, r, h => by rw [denL] at h; injection h with h; rw [h]
  | l :: cl, ro, r, h => by
    rw [denL] at h
    split at h
    · rw [denL_len h, List.length_set]
    · cases h
theorem denL_bd {n : Int} : ∀ {cl : List Lt} {ro r : List Int}, denL cl ro = some r → (∀ l ∈ cl, 0 ≤ l.wk ∧ l.wk < n) → (∀ w ∈ ro, -1 ≤ w ∧ w < n) → ∀ w ∈ r, -1 ≤ w ∧ w < n
  | [], ro, r, h, _, h2 => by rw [denL] at h; injection h with h; rw [← h]; exact h2
  | l :: cl, ro, r, h, h1, h2 => by
    rw [denL] at h
    split at h
    · refine denL_bd h (fun x hx => h1 x (by simp [hx])) fun w hw => ?_
      rcases List.mem_or_eq_of_mem_set hw with hw | rfl
      · exact h2 w hw
      · have := h1 l (by simp); omega
    · cases h
def termF (p : Pl) (w : Int) (d : Du) : Int := (if 0 ≤ w then (p.workers.getD w.toNat default).wage else cheapL p.workers) * (d.to_ - d.frm)
theorem fullP_snoc (p : Pl) (w : Int) (d : Du) : ∀ {a : List Int} {b : List Du}, a.length = b.length → fullP p (a ++ [w]) (b ++ [d]) = fullP p a b + termF p w d
  | [], [], _ => by simp [fullP, termF]
  | x :: a, y :: b, h => by
    have := fullP_snoc p w d (a := a) (b := b) (by simpa using h)
    rw [List.cons_append, List.cons_append, fullP, fullP, this]
    omega
  | [], _ :: _, h => by simp at h
  | _ :: _, [], h => by simp at h
theorem cheapL_bd : ∀ {l : List Wk}, (∀ w ∈ l, 0 ≤ w.wage ∧ w.wage ≤ 1000000) → 0 ≤ cheapL l ∧ cheapL l ≤ 1000000
  | [], _ => by simp [cheapL]
  | w :: l, h => by
    have key : ∀ (l : List Wk) (c : Int), 0 ≤ c ∧ c ≤ 1000000 → (∀ w ∈ l, 0 ≤ w.wage ∧ w.wage ≤ 1000000) → 0 ≤ l.foldl (fun c x => if x.wage < c then x.wage else c) c ∧ l.foldl (fun c x => if x.wage < c then x.wage else c) c ≤ 1000000 := by
      intro l
      induction l with
      | nil => intro c hc _; exact hc
      | cons x l ih =>
        intro c hc hl
        rw [List.foldl_cons]
        refine ih _ ?_ fun w hw => hl w (by simp [hw])
        have := hl x (by simp)
        split <;> omega
    exact key l w.wage (h w (by simp)) fun x hx => h x (by simp [hx])
theorem wage_bd {p : Pl} (hv : validP p = true) : ∀ w ∈ p.workers, 0 ≤ w.wage ∧ w.wage ≤ 1000000 := fun w hw => by
  have := (wkOk_iff.1 (List.all_eq_true.1 (validP_iff.1 hv).2.2.2.2.1 w hw)).2.1
  unfold inB at this
  rwa [decide_eq_true_eq] at this
theorem termF_bd {p : Pl} (hv : validP p = true) {w : Int} {d : Du} (hw : w < p.workers.length) (hd : dutyOk p d = true) : 0 ≤ termF p w d ∧ termF p w d ≤ 1440000000 := by
  have h1 := duB_bd (dutyOk.b hd)
  have h2 : 0 ≤ (if 0 ≤ w then (p.workers.getD w.toNat default).wage else cheapL p.workers) ∧ (if 0 ≤ w then (p.workers.getD w.toNat default).wage else cheapL p.workers) ≤ 1000000 := by
    split
    · exact wage_bd hv _ (gAt (by omega))
    · exact cheapL_bd (wage_bd hv)
  unfold termF
  generalize (if 0 ≤ w then (p.workers.getD w.toNat default).wage else cheapL p.workers) = a at *
  have h3 : 0 ≤ d.to_ - d.frm ∧ d.to_ - d.frm ≤ 1440 := by omega
  generalize d.to_ - d.frm = b at *
  refine ⟨Int.mul_nonneg h2.1 h3.1, ?_⟩
  have := Int.mul_le_mul h2.2 h3.2 h3.1 (by omega : (0 : Int) ≤ 1000000)
  omega
theorem open_take {held cl : List Lt} {k : Nat} (hk : k < cl.length) : openL held (cl.take (k + 1)) = openL held (cl.take k) ++ if held.contains (negL (cl.getD k default)) = true then [] else [cl.getD k default] := by
  unfold openL
  rw [take_snoc hk, List.filter_append, List.filter_cons, List.filter_nil]
  cases held.contains (negL (cl.getD k default)) <;> rfl
theorem open_len (held cl : List Lt) : (openL held cl).length ≤ cl.length := List.length_filter_le _ _
/-- a literal is true in a roster -/
def trueL (ro : List Int) (x : Lt) : Bool := (decide (0 ≤ x.du) && decide (x.du < ro.length)) && (decide (ro.getD x.du.toNat default = x.wk) == x.is)
def holdsC (ro : List Int) (cl : List Lt) : Bool := cl.any (trueL ro)
structure Cmp (p : Pl) (ro : List Int) (b : Int) : Prop where
  v : validP p = true
  rr : isRo p ro = true
  ge : ∀ w ∈ ro, 0 ≤ w
  bad : badP p ro = []
  lt : costP p ro p.duties < b
theorem trueL_neg {ro : List Int} {x : Lt} (h : 0 ≤ x.du ∧ x.du < ro.length) : trueL ro (negL x) = !trueL ro x := by
  unfold trueL negL
  dsimp only
  rw [decide_eq_true h.1, decide_eq_true h.2]
  cases decide (ro.getD x.du.toNat default = x.wk) <;> cases x.is <;> rfl
theorem trueL_rg {ro : List Int} {x : Lt} (h : trueL ro x = true) : 0 ≤ x.du ∧ x.du < ro.length := by
  unfold trueL at h
  simp only [Bool.and_eq_true, decide_eq_true_eq] at h
  exact h.1
theorem holds_f {ro : List Int} {cl : List Lt} (h : holdsC ro cl = false) : ∀ x ∈ cl, trueL ro x = false := by
  unfold holdsC at h
  rw [List.any_eq_false] at h
  exact fun x hx => Bool.eq_false_iff.2 (h x hx)
theorem denL_par {ro : List Int} : ∀ {cl : List Lt} {r r' : List Int}, denL cl r = some r' → (∀ x ∈ cl, trueL ro x = false ∧ 0 ≤ x.du ∧ x.du < ro.length) → Par ro r → Par ro r'
  | [], r, r', h, _, hp => by rw [denL] at h; injection h with h; rw [← h]; exact hp
  | l :: cl, r, r', h, ht, hp => by
    rw [denL] at h
    split at h
    · rename_i hc
      refine denL_par h (fun x hx => ht x (by simp [hx])) ?_
      obtain ⟨h1, h2, h3⟩ := ht l (by simp)
      simp only [Bool.and_eq_true, Bool.not_eq_true'] at hc
      unfold trueL at h1
      rw [decide_eq_true h2, decide_eq_true h3, hc.1] at h1
      have h4 : ro.getD l.du.toNat default = l.wk := by
        apply Classical.byContradiction
        intro hn
        rw [decide_eq_false hn] at h1
        cases h1
      refine ⟨by rw [List.length_set]; exact hp.1, fun k => ?_⟩
      by_cases e : l.du.toNat = k
      · left
        rw [← e, h4]
        have : l.du.toNat < r.length := by rw [hp.1]; omega
        simp [List.getD, this]
      · have : (r.set l.du.toNat l.wk).getD k default = r.getD k default := by simp [List.getD, e]
        rw [this]; exact hp.2 k
    · cases h
theorem par_rep (ro : List Int) : Par ro (List.replicate ro.length (-1)) := by
  refine ⟨by simp, fun k => ?_⟩
  by_cases h : k < ro.length
  · right; simp [List.getD, h]
  · left; simp [List.getD, h]
theorem denS_par {p : Pl} {s : Sg} {ro r : List Int} (hl : ro.length = p.duties.length) (hp : s.cl.all (properB p) = true) (hf : ∀ x ∈ s.cl, trueL ro x = false) (h : denS p s = some r) : Par ro r := by
  unfold denS at h
  split at h
  · refine denL_par h (fun x hx => ⟨hf x hx, ?_⟩) (hl ▸ par_rep ro)
    have := properB_iff.1 (List.all_eq_true.1 hp x hx)
    omega
  · cases h
theorem ro_posR {p : Pl} {ro : List Int} (hv : validP p = true) (hr : isRo p ro = true) (w : Nat) : posT (trip p (mineR ro w)) := by
  have hl := (isRo_iff.1 hr).1
  have h24 := (validP_iff.1 hv).2.1
  refine (tri_of hv (fun d hd => ?_) (by have := mineR_len ro w; omega)).pos
  have := mineR_lt hd
  exact List.all_eq_true.1 (validP_iff.1 hv).2.2.2.1 _ (gAt (by omega))
theorem bad_sound {p : Pl} {s : Sg} {ro : List Int} {b : Int} (h : Cmp p ro b) (hp : s.cl.all (properB p) = true) (hb : badS p s = true) : holdsC ro s.cl = true := by
  apply Classical.byContradiction
  intro hn
  have hf := holds_f (Bool.eq_false_iff.2 hn)
  unfold badS at hb
  cases hd : denS p s with
  | none => rw [hd] at hb; cases hb
  | some r =>
    rw [hd] at hb
    have hpar := denS_par (isRo_iff.1 h.rr).1 hp hf hd
    exact violB_iff.1 hb (hpar.bad (fun w _ => ro_posR h.v h.rr w) h.bad)
theorem full_le {p : Pl} {ro r : List Int} (hv : validP p = true) (hr : isRo p ro = true) (hg : ∀ w ∈ ro, 0 ≤ w) (hp : Par ro r) : fullP p r p.duties ≤ costP p ro p.duties := by
  have hl := (isRo_iff.1 hr).1
  have hrl := hp.1
  have key : ∀ n, n ≤ ro.length → fullP p (r.take n) (p.duties.take n) ≤ costP p (ro.take n) (p.duties.take n) := by
    intro n
    induction n with
    | zero => intro _; simp [fullP, costP]
    | succ n ih =>
      intro hn
      have i1 := ih (by omega)
      rw [take_snoc (l := r) (by omega), take_snoc (l := ro) (by omega), take_snoc (l := p.duties) (by omega), fullP_snoc p _ _ (by simp; omega), costP_snoc p _ _ (by simp; omega)]
      have hd := duB_bd (dutyOk.b (List.all_eq_true.1 (validP_iff.1 hv).2.2.2.1 _ (gAt (show n < p.duties.length by omega))))
      have h0 := hg _ (gAt (show n < ro.length by omega))
      have h1 := (isRo_iff.1 hr).2 _ (gAt (show n < ro.length by omega))
      have hm : p.workers.getD (ro.getD n default).toNat default ∈ p.workers := gAt (by omega)
      have : termF p (r.getD n default) (p.duties.getD n default) ≤ termC p (ro.getD n default) (p.duties.getD n default) := by
        unfold termF termC
        rw [if_pos h0]
        rcases hp.2 n with e | e
        · rw [e, if_pos h0]; exact Int.le_refl _
        · rw [e, if_neg (by omega)]
          exact Int.mul_le_mul_of_nonneg_right (cheap_leW hm) (by omega)
      omega
  have := key ro.length (Nat.le_refl _)
  rwa [List.take_of_length_le (by omega), List.take_of_length_le (by omega), List.take_of_length_le (by omega)] at this
theorem cost_sound {p : Pl} {s : Sg} {ro : List Int} {b : Int} (h : Cmp p ro b) (hp : s.cl.all (properB p) = true) (hb : costS p b s = true) : holdsC ro s.cl = true := by
  apply Classical.byContradiction
  intro hn
  have hf := holds_f (Bool.eq_false_iff.2 hn)
  unfold costS at hb
  cases hd : denS p s with
  | none => rw [hd] at hb; cases hb
  | some r =>
    rw [hd] at hb
    simp only [decide_eq_true_eq] at hb
    have hpar := denS_par (isRo_iff.1 h.rr).1 hp hf hd
    have := full_le h.v h.rr h.ge hpar
    have := h.lt
    omega
theorem unitF_sound {ro : List Int} {log : List Sg} : ∀ (ks : List Int) (held : List Lt), (∀ k ∈ ks, holdsC ro (log.getD k.toNat default).cl = true) → (∀ x ∈ held, trueL ro x = true) → unitF log ks held = false
  | [], _, _, _ => rfl
  | k :: ks, held, h, hh => by
    have h1 := h k (by simp)
    unfold holdsC at h1
    rw [List.any_eq_true] at h1
    obtain ⟨x, hx, hx1⟩ := h1
    have hm : x ∈ openL held (log.getD k.toNat default).cl := by
      unfold openL
      rw [List.mem_filter]
      refine ⟨hx, ?_⟩
      rw [Bool.not_eq_true', List.contains_eq_mem, decide_eq_false_iff_not]
      intro hn
      have := hh _ hn
      rw [trueL_neg (trueL_rg hx1), hx1] at this
      cases this
    rw [unitF, if_neg (fun e => by rw [e] at hm; cases hm)]
    by_cases hs : sameL (openL held (log.getD k.toNat default).cl) = true
    · rw [hs, Bool.true_and]
      refine unitF_sound ks _ (fun j hj => h j (by simp [hj])) fun y hy => ?_
      rcases List.mem_cons.1 hy with rfl | hy
      · unfold sameL at hs
        have := List.all_eq_true.1 hs x hm
        rw [decide_eq_true_eq] at this
        rw [← this]
        exact hx1
      · exact hh y hy
    · rw [Bool.eq_false_iff.2 hs, Bool.false_and]
theorem unit_sound {p : Pl} {log : List Sg} {k : Nat} {s : Sg} {ro : List Int} {b : Int} (h : Cmp p ro b) (hp : s.cl.all (properB p) = true) (hu : unitB log k s = true) (ih : ∀ j, j < k → holdsC ro (log.getD j default).cl = true) : holdsC ro s.cl = true := by
  apply Classical.byContradiction
  intro hn
  have hf := holds_f (Bool.eq_false_iff.2 hn)
  unfold unitB at hu
  rw [Bool.and_eq_true_iff] at hu
  have hl := (isRo_iff.1 h.rr).1
  have := unitF_sound (ro := ro) (log := log) s.frm (s.cl.map negL) (fun j hj => ?_) fun x hx => ?_
  · rw [hu.2] at this; cases this
  · have := List.all_eq_true.1 hu.1 j hj
    simp only [Bool.and_eq_true, decide_eq_true_eq] at this
    exact ih _ (by omega)
  · obtain ⟨y, hy, rfl⟩ := List.mem_map.1 hx
    have hpy := properB_iff.1 (List.all_eq_true.1 hp y hy)
    rw [trueL_neg (by omega), hf y hy]
    rfl
theorem some_sound {p : Pl} {s : Sg} {ro : List Int} {b : Int} (h : Cmp p ro b) (hp : s.cl.all (properB p) = true) (hb : someB p s = true) : holdsC ro s.cl = true := by
  unfold someB at hb
  simp only [Bool.and_eq_true, decide_eq_true_eq, List.all_eq_true] at hb
  obtain ⟨⟨⟨_, h1⟩, h2⟩, h3⟩ := hb
  have hri := isRo_iff.1 h.rr
  have hw0 : 0 < p.workers.length := by
    have a := h.ge _ (gAt (show 0 < ro.length by omega))
    have b := hri.2 _ (gAt (show 0 < ro.length by omega))
    omega
  have hp0 := properB_iff.1 (List.all_eq_true.1 hp _ (gAt (show 0 < s.cl.length by omega)))
  generalize hd : (s.cl.getD 0 default).du = d at *
  have hdl : d.toNat < ro.length := by omega
  have a := h.ge _ (gAt hdl)
  have b := hri.2 _ (gAt hdl)
  have h4 := h3 (ro.getD d.toNat default).toNat (List.mem_range.2 (by omega))
  unfold rowB at h4
  rw [decide_eq_true_eq, hd] at h4
  unfold holdsC
  rw [List.any_eq_true]
  refine ⟨_, gAt (show (ro.getD d.toNat default).toNat < s.cl.length by omega), ?_⟩
  rw [h4]
  unfold trueL
  dsimp only
  rw [decide_eq_true (show 0 ≤ d by omega), decide_eq_true (show d < ro.length by omega), decide_eq_true (by omega)]
  rfl
theorem one_sound {p : Pl} {s : Sg} {ro : List Int} {b : Int} (h : Cmp p ro b) (hp : s.cl.all (properB p) = true) (hb : oneB s = true) : holdsC ro s.cl = true := by
  unfold oneB at hb
  simp only [Bool.and_eq_true, decide_eq_true_eq, Bool.not_eq_true'] at hb
  obtain ⟨⟨_, h1⟩, ⟨⟨h2, h3⟩, h4⟩, h5⟩ := hb
  apply Classical.byContradiction
  intro hn
  have hf := holds_f (Bool.eq_false_iff.2 hn)
  have hl := (isRo_iff.1 h.rr).1
  have m0 : s.cl.getD 0 default ∈ s.cl := gAt (by omega)
  have m1 : s.cl.getD 1 default ∈ s.cl := gAt (by omega)
  have f0 := hf _ m0
  have f1 := hf _ m1
  have p0 := properB_iff.1 (List.all_eq_true.1 hp _ m0)
  have p1 := properB_iff.1 (List.all_eq_true.1 hp _ m1)
  unfold trueL at f0 f1
  rw [h2, decide_eq_true (by omega), decide_eq_true (by omega)] at f0
  rw [h3, decide_eq_true (by omega), decide_eq_true (by omega)] at f1
  rw [← h4] at f1
  have e0 : ro.getD (s.cl.getD 0 default).du.toNat default = (s.cl.getD 0 default).wk := by
    apply Classical.byContradiction; intro hn; rw [decide_eq_false hn] at f0; cases f0
  have e1 : ro.getD (s.cl.getD 0 default).du.toNat default = (s.cl.getD 1 default).wk := by
    apply Classical.byContradiction; intro hn; rw [decide_eq_false hn] at f1; cases f1
  omega
theorem foll_sound {p : Pl} {b : Int} {log : List Sg} {ro : List Int} (h : Cmp p ro b) : ∀ (n k : Nat), k < n → (∀ j, j < n → follB p b log j = true) → holdsC ro (log.getD k default).cl = true
  | 0, k, hk, _ => by omega
  | n + 1, k, hk, hf => by
    rcases Nat.lt_or_eq_of_le (Nat.lt_succ_iff.1 hk) with hlt | rfl
    · exact foll_sound h n k hlt fun j hj => hf j (by omega)
    have ih := fun j (hj : j < k) => foll_sound h k j hj fun j hj => hf j (by omega)
    have h1 := hf k (by omega)
    unfold follB at h1
    rw [Bool.and_eq_true_iff] at h1
    obtain ⟨hp, hr⟩ := h1
    unfold ruleB at hr
    split at hr
    · exact some_sound h hp hr
    split at hr
    · exact one_sound h hp hr
    split at hr
    · exact bad_sound h hp hr
    split at hr
    · exact cost_sound h hp hr
    split at hr
    · exact unit_sound h hp hr ih
    · cases hr
def partF (f : List Int) (m : Nat) : List Int := f ++ List.replicate m (-1)
/-! steps and longer logs -/
theorem getD_app {α : Type} [Inhabited α] {l m : List α} {j : Nat} (h : j < l.length) : (l ++ m).getD j default = l.getD j default := by
  simp [List.getD, List.getElem?_append_left h]
theorem unitF_app {log m : List Sg} : ∀ {ks : List Int} {held : List Lt}, (∀ j ∈ ks, 0 ≤ j ∧ j < (log.length : Int)) → unitF (log ++ m) ks held = unitF log ks held
  | [], _, _ => rfl
  | k :: ks, held, h => by
    have h1 := h k (by simp)
    rw [unitF, unitF, getD_app (by omega), unitF_app fun j hj => h j (by simp [hj])]
theorem foll_app {p : Pl} {bd : Int} {log m : List Sg} {k : Nat} (hk : k < log.length) : follB p bd (log ++ m) k = follB p bd log k := by
  unfold follB
  rw [getD_app hk]
  congr 1
  unfold ruleB
  have hu : unitB (log ++ m) k (log.getD k default) = unitB log k (log.getD k default) := by
    unfold unitB
    cases h : (log.getD k default).frm.all fun j => decide (0 ≤ j) && decide (j < (k : Int)) with
    | false => rfl
    | true =>
      rw [List.all_eq_true] at h
      rw [unitF_app fun j hj => by have := h j hj; simp only [Bool.and_eq_true, decide_eq_true_eq] at this; omega]
  rw [hu]
theorem getD_last {α : Type} [Inhabited α] (l : List α) (x : α) : (l ++ [x]).getD l.length default = x := by simp [List.getD]
/-- all steps from base on follow, and are short -/
structure Good (p : Pl) (b : Int) (base : Nat) (log : List Sg) : Prop where
  f : ∀ j, base ≤ j → j < log.length → follB p b log j = true ∧ (log.getD j default).cl.length ≤ 100 ∧ (log.getD j default).frm.length ≤ 100
theorem Good.nil {p : Pl} {b : Int} (log : List Sg) : Good p b log.length log := ⟨fun j h1 h2 => by omega⟩
theorem Good.snoc {p : Pl} {b : Int} {base : Nat} {log : List Sg} {s : Sg} (h : Good p b base log) (hs : follB p b (log ++ [s]) log.length = true) (hc : s.cl.length ≤ 100) (hf : s.frm.length ≤ 100) : Good p b base (log ++ [s]) := by
  refine ⟨fun j h1 h2 => ?_⟩
  rw [List.length_append, List.length_cons, List.length_nil] at h2
  rcases Nat.lt_or_eq_of_le (Nat.lt_succ_iff.1 (show j < log.length + 1 by omega)) with hj | rfl
  · rw [foll_app hj, getD_app hj]
    exact h.f j h1 hj
  · rw [getD_last]
    exact ⟨hs, hc, hf⟩
theorem Good.trans {p : Pl} {b : Int} {a : Nat} {log m : List Sg} (h : Good p b a log) (h2 : Good p b log.length (log ++ m)) : Good p b a (log ++ m) := by
  refine ⟨fun j h3 h4 => ?_⟩
  rcases Nat.lt_or_ge j log.length with hj | hj
  · rw [foll_app hj, getD_app hj]
    exact h.f j h3 hj
  · exact h2.f j hj h4
/-! what is added follows -/
theorem mineR_rep (n w : Nat) : mineR (List.replicate n (-1)) w = [] := by
  unfold mineR
  rw [List.filter_eq_nil_iff]
  intro i hi
  rw [List.mem_range, List.length_replicate] at hi
  simp [List.getD, hi]
theorem bad_rep (p : Pl) (n : Nat) : badP p (List.replicate n (-1)) = [] := by
  rw [badP_nil]
  intro w _
  rw [mineR_rep, violW_nil]
  simp [trip]
theorem denL_no : ∀ (f pre : List Int) (m : Nat), (∀ w ∈ f, 0 ≤ w) → denL (noLo pre.length f) (pre ++ List.replicate (f.length + m) (-1)) = some (pre ++ (f ++ List.replicate m (-1)))
  | [], pre, m, _ => by rw [noLo, denL, List.length_nil, Nat.zero_add, List.nil_append]
  | w :: f, pre, m, h => by
    have e : (pre ++ List.replicate ((w :: f).length + m) (-1 : Int)) = pre ++ -1 :: List.replicate (f.length + m) (-1) := by
      rw [show (w :: f).length + m = (f.length + m) + 1 by simp; omega, List.replicate_succ]
    have hg : (pre ++ List.replicate ((w :: f).length + m) (-1 : Int)).getD ((pre.length : Nat) : Int).toNat default = -1 := by
      rw [e]; simp [List.getD]
    have hst : (pre ++ List.replicate ((w :: f).length + m) (-1 : Int)).set ((pre.length : Nat) : Int).toNat w = (pre ++ [w]) ++ List.replicate (f.length + m) (-1) := by
      rw [e]; simp
    rw [noLo, denL]
    dsimp only
    rw [hg, hst, if_pos (by decide)]
    have := denL_no f (pre ++ [w]) m fun x hx => h x (by simp [hx])
    rw [List.length_append, List.length_cons, List.length_nil] at this
    rw [this]
    simp
structure Pre (p : Pl) (f : List Int) (m : Nat) : Prop where
  v : validP p = true
  l : f.length + m = p.duties.length
  w : ∀ w ∈ f, 0 ≤ w ∧ w < p.workers.length
theorem Pre.proper {p : Pl} {f : List Int} {m : Nat} (h : Pre p f m) : (noL f).all (properB p) = true := by
  rw [List.all_eq_true]
  intro x hx
  obtain ⟨i, hi, rfl⟩ := noLo_mem hx
  have := h.w _ (gAt hi)
  have := h.l
  rw [properB_iff]
  dsimp only
  omega
theorem Pre.den {p : Pl} {f : List Int} {m : Nat} (h : Pre p f m) (h0 : 0 < f.length) (r : Int) : denS p ⟨noL f, r, []⟩ = some (partF f m) := by
  unfold denS
  have := denL_no f [] m fun w hw => (h.w w hw).1
  rw [if_pos (by simp only [List.length_nil, decide_true, Bool.true_and, decide_eq_true_eq]; rw [noLo_len]; exact h0), ← h.l]
  exact this
theorem Pre.len {p : Pl} {f : List Int} {m : Nat} (h : Pre p f m) : f.length ≤ 24 ∧ p.workers.length ≤ 12 ∧ p.duties.length ≤ 24 := by
  have := validP_iff.1 h.v
  have := h.l
  omega
theorem foll_bad {p : Pl} {b : Int} {f : List Int} {m : Nat} {log : List Sg} (h : Pre p f m) (hb : badP p (partF f m) ≠ []) : follB p b (log ++ [⟨noL f, 3, []⟩]) log.length = true := by
  have h0 : 0 < f.length := by
    apply Nat.pos_of_ne_zero
    intro e
    have : f = [] := List.eq_nil_of_length_eq_zero e
    subst this
    exact hb (bad_rep p m)
  unfold follB ruleB
  rw [getD_last]
  dsimp only
  rw [h.proper, if_neg (by decide), if_neg (by decide), if_pos rfl, badS, h.den h0, Bool.true_and]
  exact violB_iff.2 hb
/-- held literals while the workers are gone through -/
def heldF (f : List Int) : Nat → List Lt
  | 0 => (noL f).map negL
  | w + 1 => ⟨f.length, w, false⟩ :: heldF f w
theorem heldF_pos {f : List Int} {x : Lt} : ∀ {w : Nat}, x ∈ (noL f).map negL → x ∈ heldF f w
  | 0, h => h
  | _w + 1, h => List.mem_cons_of_mem _ (heldF_pos h)
theorem heldF_neg {f : List Int} {v : Nat} : ∀ {w : Nat}, v < w → (⟨f.length, v, false⟩ : Lt) ∈ heldF f w
  | 0, h => by omega
  | w + 1, h => by
    rw [heldF, List.mem_cons]
    rcases Nat.lt_or_eq_of_le (Nat.lt_succ_iff.1 h) with h | rfl
    · exact .inr (heldF_neg h)
    · exact .inl rfl
theorem heldF_not {f : List Int} {v : Int} : ∀ {w : Nat}, (⟨f.length, v, true⟩ : Lt) ∉ heldF f w
  | 0, h => by
    rw [heldF] at h
    obtain ⟨y, hy, e⟩ := List.mem_map.1 h
    obtain ⟨i, hi, rfl⟩ := noLo_mem hy
    unfold negL at e
    injection e with e1 e2
    dsimp only at e1
    omega
  | w + 1, h => by
    rw [heldF, List.mem_cons] at h
    rcases h with h | h
    · injection h with h1 h2 h3; cases h3
    · exact heldF_not h
theorem open_no {f : List Int} {w : Nat} : openL (heldF f w) (noL (f ++ [(w : Int)])) = [⟨f.length, w, false⟩] := by
  unfold openL
  rw [noL_snoc, List.filter_append, List.filter_eq_nil_iff.2, List.nil_append, List.filter_cons, List.filter_nil, if_pos]
  · rw [Bool.not_eq_true', List.contains_eq_mem, decide_eq_false_iff_not]
    exact heldF_not
  · intro x hx
    rw [Bool.not_eq_true, Bool.not_eq_false', List.contains_eq_mem, decide_eq_true_eq]
    exact heldF_pos (List.mem_map.2 ⟨x, hx, rfl⟩)
theorem open_yes {f : List Int} {n : Nat} : openL (heldF f n) (yesL f.length n) = [] := by
  unfold openL yesL
  rw [List.filter_eq_nil_iff]
  intro x hx
  obtain ⟨w, hw, rfl⟩ := List.mem_map.1 hx
  rw [List.mem_range] at hw
  rw [Bool.not_eq_true, Bool.not_eq_false', List.contains_eq_mem, decide_eq_true_eq]
  exact heldF_neg hw
theorem unit_go {log : List Sg} {f : List Int} {n : Nat} {K : Int} (hK : (log.getD K.toNat default).cl = yesL f.length n) : ∀ (ks : List Int) (w : Nat), w + ks.length = n → (∀ i, i < ks.length → (log.getD (ks.getD i default).toNat default).cl = noL (f ++ [((w + i : Nat) : Int)])) → unitF log (ks ++ [K]) (heldF f w) = true
  | [], w, h, _ => by
    have : w = n := by simpa using h
    subst this
    rw [List.nil_append, unitF, hK, open_yes, if_pos rfl]
    rfl
  | k :: ks, w, h, hc => by
    have h0 := hc 0 (by simp)
    simp only [Nat.add_zero] at h0
    have e0 : (k :: ks).getD 0 default = k := rfl
    rw [e0] at h0
    rw [List.cons_append, unitF, h0, open_no, if_neg (by simp)]
    have e1 : sameL [(⟨f.length, w, false⟩ : Lt)] = true := by simp [sameL]
    rw [e1, Bool.true_and]
    have := unit_go hK ks (w + 1) (by simp at h; omega) fun i hi => by
      have := hc (i + 1) (by simp; omega)
      rw [show w + 1 + i = w + (i + 1) by omega, ← this]
      rfl
    exact this
theorem full_part (p : Pl) : ∀ (f : List Int) (m : Nat) (ds : List Du), f.length + m = ds.length → (∀ w ∈ f, 0 ≤ w) → fullP p (partF f m) ds = costP p f (ds.take f.length) + ((ds.drop f.length).map fun x => cheapL p.workers * minD x).sum
  | [], 0, [], _, _ => by simp [partF, fullP, costP]
  | [], m + 1, d :: ds, h, _ => by
    have ih := full_part p [] m ds (by simpa using h) (by simp)
    have e : partF [] (m + 1) = -1 :: partF [] m := by unfold partF; rw [List.replicate_succ]; rfl
    rw [e, fullP, ih, if_neg (by omega)]
    simp [costP, minD]
  | w :: f, m, d :: ds, h, hw => by
    have ih := full_part p f m ds (by simp at h; omega) fun x hx => hw x (by simp [hx])
    have e : partF (w :: f) m = w :: partF f m := rfl
    have h0 := hw w (by simp)
    rw [e, fullP, ih, if_pos h0, List.length_cons, List.take_succ_cons, List.drop_succ_cons, costP, if_pos h0]
    omega
  | [], 0, _ :: _, h, _ => by simp at h
  | [], _ + 1, [], h, _ => by simp at h
  | _ :: _, _, [], h, _ => by simp at h
theorem foll_cost {p : Pl} {b : Int} {f : List Int} {m : Nat} {log : List Sg} (h : Pre p f m) (h0 : 0 < f.length) (hb : b ≤ costP p f (p.duties.take f.length) + lstP p f.length) : follB p b (log ++ [⟨noL f, 4, []⟩]) log.length = true := by
  unfold follB ruleB
  rw [getD_last]
  dsimp only
  rw [h.proper, if_neg (by decide), if_neg (by decide), if_neg (by decide), if_pos rfl, costS, h.den h0, Bool.true_and]
  dsimp only
  rw [full_part p f m p.duties h.l fun w hw => (h.w w hw).1, decide_eq_true]
  exact hb
/-! what the search refutes is accepted -/
/-- the first steps of a log -/
def SomeAt (p : Pl) (log : List Sg) : Prop := p.duties.length ≤ log.length ∧ ∀ d, d < p.duties.length → (log.getD d default).cl = yesL d p.workers.length
theorem SomeAt.app {p : Pl} {log : List Sg} (h : SomeAt p log) (e : List Sg) : SomeAt p (log ++ e) :=
  ⟨by rw [List.length_append]; have := h.1; omega, fun d hd => by rw [getD_app (by have := h.1; omega)]; exact h.2 d hd⟩
/-- what a visit leaves -/
structure Left (p : Pl) (b : Int) (log : List Sg) (pre : List Int) (r : RS × Int × Int) : Prop where
  x : ∃ e, r.1.log = log ++ e
  g : Good p b 0 r.1.log
  i : 0 ≤ r.2.1 ∧ r.2.1 < r.1.log.length
  c : (r.1.log.getD r.2.1.toNat default).cl = noL pre
  z : r.2.1 + 1 = r.1.log.length
theorem add_left {p : Pl} {b : Int} {s : RS} {pre : List Int} {x : Sg} (hg : Good p b 0 s.log) (hf : follB p b (s.log ++ [x]) s.log.length = true) (hc : x.cl = noL pre) (hl : pre.length ≤ 24) (hx : x.frm.length ≤ 100) (h0 : (addP s x).2.2 = 0) : Left p b s.log pre (addP s x) := by
  unfold addP at h0 ⊢
  split at h0
  · cases h0
  · rename_i hn
    rw [if_neg hn]
    have hl2 : x.cl.length ≤ 100 := by rw [hc, noLo_len]; omega
    refine ⟨⟨_, rfl⟩, hg.snoc hf hl2 hx, ?_, ?_, ?_⟩
    · dsimp only
      rw [List.length_append, List.length_cons, List.length_nil]
      omega
    · dsimp only
      rw [Int.toNat_natCast, getD_last, hc]
    · dsimp only
      rw [List.length_append, List.length_cons, List.length_nil]
      omega
theorem ext_left {p : Pl} {b : Int} {pre : List Int} {F : Nat → RS → RS × Int × Int}
    (hF : ∀ w s, w < p.workers.length → Good p b 0 s.log → SomeAt p s.log → (F w s).2.2 = 0 → Left p b s.log (pre ++ [(w : Int)]) (F w s)) :
    ∀ (n w : Nat) (frm : List Int) (s : RS), w + n = p.workers.length → Good p b 0 s.log → SomeAt p s.log → (extR F n w frm s).2 = 0 →
      ∃ e ks, (extR F n w frm s).1.1.log = s.log ++ e ∧ Good p b 0 (s.log ++ e) ∧ (extR F n w frm s).1.2 = frm ++ ks ∧ ks.length = n ∧ ∀ i, i < n → 0 ≤ ks.getD i default ∧ ks.getD i default < (s.log ++ e).length ∧ ((s.log ++ e).getD (ks.getD i default).toNat default).cl = noL (pre ++ [((w + i : Nat) : Int)])
  | 0, w, frm, s, _, hg, _, _ => ⟨[], [], by simp [extR], by rw [List.append_nil]; exact hg, by simp [extR], rfl, fun i hi => by omega⟩
  | n + 1, w, frm, s, hw, hg, hs, h0 => by
    rw [extR] at h0 ⊢
    by_cases hf : (F w s).2.2 = 0
    · rw [if_pos hf] at h0 ⊢
      have h1 := hF w s (by omega) hg hs hf
      obtain ⟨e, he⟩ := h1.x
      have hs1 : SomeAt p (F w s).1.log := by rw [he]; exact hs.app e
      obtain ⟨e', ks, g1, g2, g3, g4, g5⟩ := ext_left hF n (w + 1) (frm ++ [(F w s).2.1]) (F w s).1 (by omega) h1.g hs1 h0
      have hi := h1.i
      have hc := h1.c
      generalize (F w s).2.1 = k at *
      generalize hL : (F w s).1.log = L at *
      refine ⟨e ++ e', k :: ks, by rw [g1, he, List.append_assoc], by rw [← List.append_assoc, ← he]; exact g2, by rw [g3]; simp, by simp [g4], fun i hi2 => ?_⟩
      rw [← List.append_assoc, ← he]
      cases i with
      | zero =>
        have e0 : (k :: ks).getD 0 default = k := rfl
        rw [e0, Nat.add_zero, getD_app (by omega)]
        exact ⟨hi.1, by rw [List.length_append]; omega, hc⟩
      | succ i =>
        have := g5 i (by omega)
        rw [show w + 1 + i = w + (i + 1) by omega] at this
        exact this
    · rw [if_neg hf] at h0
      exact absurd h0 hf
theorem clean_part {p : Pl} {pre : List Int} {m : Nat} (hw : ∀ w ∈ pre, 0 ≤ w ∧ w < p.workers.length) (h : cleanB p pre = false) : badP p (partF pre m) ≠ [] := by
  intro hb
  rcases List.eq_nil_or_concat pre with rfl | ⟨q, x, rfl⟩
  · cases h
  · rw [List.concat_eq_append] at *
    have hx := hw x (by simp)
    obtain ⟨y, rfl⟩ := Int.eq_ofNat_of_zero_le hx.1
    rw [clean_snoc] at h
    have h1 := badP_nil.1 hb y (by omega)
    have h2 : mineR (partF (q ++ [(y : Int)]) m) y = mineR (q ++ [(y : Int)]) y := by
      unfold partF mineR
      have hz : ((List.range m).map fun x => (q ++ [(y : Int)]).length + x).filter (fun i => decide ((q ++ [(y : Int)] ++ List.replicate m (-1)).getD i default = (y : Int))) = [] := by
        rw [List.filter_eq_nil_iff]
        intro i hi
        obtain ⟨j, hj, rfl⟩ := List.mem_map.1 hi
        rw [List.mem_range] at hj
        rw [decide_eq_true_eq]
        simp only [List.getD, List.getElem?_append_right (Nat.le_add_right _ _), Nat.add_sub_cancel_left, List.getElem?_replicate, if_pos hj, Option.getD_some]
        omega
      rw [List.length_append, List.length_replicate, List.range_add, List.filter_append, hz, List.append_nil]
      apply List.filter_congr
      intro i hi
      rw [List.mem_range] at hi
      rw [getD_app hi]
    rw [h2] at h1
    rw [h1] at h
    cases h
theorem ref_left {p : Pl} {b B : Int} (hb : b ≤ B) : ∀ (m : Nat) (pre : List Int) (c : Int) (s : RS), Pre p pre m → 0 < p.duties.length → c = costP p pre (p.duties.take pre.length) → LfP p B m pre c → Good p b 0 s.log → SomeAt p s.log → (refP p B m pre c s).2.2 = 0 → Left p b s.log pre (refP p B m pre c s)
  | m, pre, c, s, h, hn, hc, hl, hg, hs, h0 => by
    have hlen := h.len
    have hpl := h.l
    rw [refP_eq] at h0 ⊢
    by_cases h1 : s.fuel - 1 < 0
    · rw [if_pos h1] at h0; cases h0
    · rw [if_neg h1] at h0 ⊢
      by_cases h2 : (decide (0 < pre.length) && decide (B ≤ c + lstP p pre.length)) = true
      · rw [if_pos h2] at h0 ⊢
        simp only [Bool.and_eq_true, decide_eq_true_eq] at h2
        exact add_left (s := ⟨s.fuel - 1, s.log⟩) hg (foll_cost h h2.1 (by rw [← hc]; omega)) rfl (by omega) (by simp) h0
      · rw [if_neg h2] at h0 ⊢
        by_cases h3 : cleanB p pre = false
        · rw [if_pos h3] at h0 ⊢
          exact add_left (s := ⟨s.fuel - 1, s.log⟩) hg (foll_bad h (clean_part h.w h3)) rfl (by omega) (by simp) h0
        · rw [if_neg h3] at h0 ⊢
          cases m with
          | zero =>
            exfalso
            rw [LfP] at hl
            rcases hl with hl | hl
            · exact h2 (by simp only [Bool.and_eq_true, decide_eq_true_eq]; exact hl)
            · exact h3 hl
          | succ m =>
            rw [rfStP] at h0 ⊢
            have hcl : cleanB p pre = true := by cases hq : cleanB p pre with | false => exact absurd hq h3 | true => rfl
            rw [LfP] at hl
            have hlt : pre.length < p.duties.length := by omega
            by_cases h4 : (extR (stpR p B m pre c) p.workers.length 0 [] ⟨s.fuel - 1, s.log⟩).2 = 0
            · rw [if_neg (fun h => h h4)] at h0 ⊢
              obtain ⟨e, ks, g1, g2, g3, g4, g5⟩ := ext_left (p := p) (b := b) (pre := pre) (F := stpR p B m pre c) (fun w s' hw hg' hs' h5 => by
                refine ref_left hb m (pre ++ [(w : Int)]) _ s' ⟨h.v, by simp; omega, fun x hx => ?_⟩ hn ?_ (hl hcl w hw) hg' hs' h5
                · rcases List.mem_append.1 hx with hx | hx
                  · exact h.w x hx
                  · rw [List.mem_singleton] at hx; omega
                · rw [List.length_append, List.length_cons, List.length_nil, List.take_succ_eq_append_getElem hlt, costP_app p (by rw [List.length_take]; omega), ← hc]
                  have e5 : p.duties.getD pre.length default = p.duties[pre.length] := by simp [List.getD, hlt]
                  have e6 : costP p [(w : Int)] [p.duties[pre.length]] = wageP p w * minD p.duties[pre.length] := by simp [costP, wageP, minD]
                  rw [e5, e6]) p.workers.length 0 [] ⟨s.fuel - 1, s.log⟩ (by omega) hg hs h4
              generalize extR (stpR p B m pre c) p.workers.length 0 [] ⟨s.fuel - 1, s.log⟩ = R at *
              rw [List.nil_append] at g3
              dsimp only at g1 g2 g5
              rw [g3] at h0 ⊢
              rw [← g1] at g2 g5
              have hs2 : SomeAt p R.1.1.log := by rw [g1]; exact hs.app e
              have hs3 := hs2.1
              have hu : follB p b (R.1.1.log ++ [⟨noL pre, 5, ks ++ [(pre.length : Int)]⟩]) R.1.1.log.length = true := by
                unfold follB ruleB
                rw [getD_last]
                dsimp only
                rw [h.proper, if_neg (by decide), if_neg (by decide), if_neg (by decide), if_neg (by decide), if_pos rfl, Bool.true_and]
                unfold unitB
                dsimp only
                have hrg : ∀ j ∈ ks ++ [(pre.length : Int)], 0 ≤ j ∧ j < (R.1.1.log.length : Int) := by
                  intro j hj
                  rcases List.mem_append.1 hj with hj | hj
                  · obtain ⟨i, hi, rfl⟩ := List.mem_iff_getElem.1 hj
                    have := g5 i (by omega)
                    rw [getD_at hi] at this
                    omega
                  · rw [List.mem_singleton] at hj; omega
                rw [Bool.and_eq_true_iff]
                refine ⟨?_, ?_⟩
                · rw [List.all_eq_true]
                  intro j hj
                  have := hrg j hj
                  simp only [Bool.and_eq_true, decide_eq_true_eq]
                  exact this
                · rw [unitF_app hrg]
                  refine unit_go (f := pre) (n := p.workers.length) (by rw [Int.toNat_natCast]; exact hs2.2 _ hlt) ks 0 (by omega) fun i hi => ?_
                  exact (g5 i (by omega)).2.2
              have hw12 := (validP_iff.1 h.v).2.2.1
              have hA := add_left (s := R.1.1) (x := ⟨noL pre, 5, ks ++ [(pre.length : Int)]⟩) (pre := pre) g2 hu rfl (by omega) (by simp; omega) h0
              obtain ⟨e', he'⟩ := hA.x
              exact ⟨⟨e ++ e', by rw [he', g1, List.append_assoc]⟩, hA.g, hA.i, hA.c, hA.z⟩
            · rw [if_pos h4] at h0
              exact absurd h0 h4
theorem some_at (p : Pl) : SomeAt p (someL p p.duties.length) := by
  refine ⟨by unfold someL; simp, fun d hd => ?_⟩
  unfold someL
  simp [List.getD, hd]
theorem some_good {p : Pl} {b : Int} (hv : validP p = true) : ∀ d, d ≤ p.duties.length → Good p b 0 (someL p d)
  | 0, _ => ⟨fun j _ h => by simp [someL] at h⟩
  | d + 1, hd => by
    have ih := some_good (b := b) hv d (by omega)
    have h12 := (validP_iff.1 hv).2.2.1
    rw [someL_snoc]
    have hl : (someL p d).length = d := by unfold someL; simp
    refine ih.snoc ?_ (by unfold yesL; simp; omega) (by simp)
    unfold follB ruleB
    rw [getD_last, if_pos rfl, Bool.and_eq_true_iff]
    refine ⟨?_, ?_⟩
    · rw [List.all_eq_true]
      intro x hx
      unfold yesL at hx
      obtain ⟨w, hw, rfl⟩ := List.mem_map.1 hx
      rw [List.mem_range] at hw
      rw [properB_iff]
      dsimp only
      omega
    · unfold someB
      dsimp only
      have e : (yesL d p.workers.length).length = p.workers.length := by unfold yesL; simp
      rw [e, List.length_nil, decide_eq_true rfl, decide_eq_true (by omega : 0 < p.duties.length), decide_eq_true rfl, Bool.true_and, Bool.true_and, Bool.true_and, List.all_eq_true]
      intro i hi
      rw [List.mem_range] at hi
      have g : ∀ j, j < p.workers.length → (yesL d p.workers.length).getD j default = ⟨(d : Int), (j : Int), true⟩ := fun j hj => by unfold yesL; simp [List.getD, hj]
      unfold rowB
      rw [g i hi, g 0 (by omega), decide_eq_true rfl]
/-- all steps follow, and the last one is the empty clause -/
def prvB (p : Pl) (b : Int) (log : List Sg) : Bool := (List.range log.length).all (follB p b log) && (decide (0 < log.length) && decide ((log.getD (log.length - 1) default).cl.length = 0))
theorem ref_prv {p : Pl} {b B : Int} {fu : Int} (hb : b ≤ B) (hv : validP p = true) (hn : 0 < p.duties.length) (hl : LfP p B p.duties.length [] 0) (h0 : (refP p B p.duties.length [] 0 ⟨fu, someL p p.duties.length⟩).2.2 = 0) : prvB p b (refP p B p.duties.length [] 0 ⟨fu, someL p p.duties.length⟩).1.log = true := by
  have h := ref_left hb p.duties.length [] 0 ⟨fu, someL p p.duties.length⟩ ⟨hv, by simp, by simp⟩ hn (by simp [costP]) hl (some_good hv _ (Nat.le_refl _)) (some_at p) h0
  have h1 := h.g
  have h2 := h.c
  have h3 := h.z
  generalize refP p B p.duties.length [] 0 ⟨fu, someL p p.duties.length⟩ = R at *
  unfold prvB
  simp only [Bool.and_eq_true, decide_eq_true_eq, List.all_eq_true, List.mem_range]
  have hi := h.i
  refine ⟨fun j hj => (h1.f j (Nat.zero_le _) hj).1, by omega, ?_⟩
  rw [show R.1.log.length - 1 = R.2.1.toNat by omega, h2]
  rfl
theorem prv_no {p : Pl} {b : Int} {ro : List Int} {log : List Sg} (h : Cmp p ro b) : prvB p b log = false := by
  refine Bool.eq_false_iff.2 fun hp => ?_
  unfold prvB at hp
  simp only [Bool.and_eq_true, decide_eq_true_eq, List.all_eq_true, List.mem_range] at hp
  have := foll_sound h log.length (log.length - 1) (by omega) fun j hj => hp.1 j hj
  rw [List.eq_nil_of_length_eq_zero hp.2.2] at this
  cases this
end Go.Proofs.YtecemgicnboaaaaGreat
