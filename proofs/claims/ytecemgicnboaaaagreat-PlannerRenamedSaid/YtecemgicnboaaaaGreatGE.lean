/-
  Plain part of chapter 20: plans that are relaxed.
  Conditions: those of each theorem.
-/
import Derived.Test.YtecemgicnboaaaaGreatGB
import Derived.Test.YtecemgicnboaaaaGreatGQ
namespace Go.Wage
theorem all_mem {p : Pl} {ro : List Int} : ro ∈ allR p ↔ ro.length = p.duties.length ∧ ∀ w ∈ ro, 0 ≤ w ∧ w < p.workers.length := by
  unfold allR
  constructor
  · intro h
    obtain ⟨e, he, h1, h2⟩ := comp_ext h
    rw [List.nil_append] at he
    subst he
    exact ⟨h1, h2⟩
  · rintro ⟨h1, h2⟩
    have := comp_all (W := p.workers.length) (e := ro) (pre := []) h2
    rwa [h1, List.nil_append] at this
theorem workB_iff {p : Pl} {ro : List Int} : workB p ro = true ↔ ∀ w, w < p.workers.length → violW p w (mineR ro w) = [] := by
  unfold workB
  rw [List.isEmpty_iff, badP_nil]
theorem best_le {p q : Pl} (h : ∀ ro ∈ allR p, workB p ro = true → ∃ ro' ∈ allR q, workB q ro' = true ∧ costP q ro' q.duties ≤ costP p ro p.duties) (hf : (bestC p).found = true) : (bestC q).found = true ∧ (bestC q).cost ≤ (bestC p).cost := by
  obtain ⟨ro, h1, h2, h3⟩ := best_mem hf
  obtain ⟨r', h4, h5, h6⟩ := h ro h1 h2
  have := (fold_least (p := q) (allR q) ⟨false, [], 0⟩).2 r' h4 h5
  rw [h3]
  exact ⟨this.1, Int.le_trans this.2 h6⟩
theorem perm_sumI {l m : List Int} (h : l.Perm m) : l.sum = m.sum := by
  induction h with
  | nil => rfl
  | cons x _ ih => simp [ih]
  | swap x y l => simp; omega
  | trans _ _ h1 h2 => rw [h1, h2]
theorem any_perm {α : Type} {f : α → Bool} {l m : List α} (h : l.Perm m) : l.any f = m.any f := by
  rw [Bool.eq_iff_iff, List.any_eq_true, List.any_eq_true]
  exact ⟨fun ⟨x, hx, hf⟩ => ⟨x, h.mem_iff.1 hx, hf⟩, fun ⟨x, hx, hf⟩ => ⟨x, h.mem_iff.2 hx, hf⟩⟩
theorem sumT_map (T : Tri) (day : Int) : sumT T day = ((T.map (·.2)).map fun q : Int × Int => if q.1 = day then q.2 else 0).sum := by
  unfold sumT
  rw [List.map_map]
  rfl
theorem trip_map (p : Pl) (mine : List Nat) : (trip p mine).map (·.2) = mine.flatMap fun d => minsD p (p.duties.getD d default) := by
  unfold trip
  rw [List.map_flatMap]
  congr 1
  funext d
  rw [List.map_map]
  exact (List.map_congr_left fun q _ => rfl).trans (List.map_id _)
theorem ov_of {p q : Pl} {x : Wk} {m n : List Nat} (hl : q.lim = p.lim) (h : ((trip q n).map (·.2)).Perm ((trip p m).map (·.2))) : ovB q x n = ovB p x m := by
  have hs : ∀ day, sumT (trip q n) day = sumT (trip p m) day := fun day => by
    rw [sumT_map, sumT_map]
    exact perm_sumI (h.map _)
  have hd : dayB q x (trip q n) = dayB p x (trip p m) := by
    funext day
    unfold dayB week7
    rw [hl]
    simp only [hs]
  unfold ovB
  rw [hd]
  have := h.map (·.1)
  rw [List.map_map, List.map_map] at this
  exact any_perm this
theorem cost_same {p q : Pl} : ∀ {ro : List Int} {ds : List Du}, (∀ w ∈ ro, (q.workers.getD w.toNat default).wage = (p.workers.getD w.toNat default).wage) → costP q ro ds = costP p ro ds
  | w :: ro, d :: ds, h => by rw [costP, costP, h w (by simp), cost_same fun x hx => h x (by simp [hx])]
  | [], _, _ => by simp [costP]
  | _ :: _, [], _ => by simp [costP]
/-! the limits -/
def limP (p : Pl) (l : Li) : Pl := { p with lim := l }
structure LimLe (a b : Li) : Prop where
  r : b.rest ≤ a.rest
  w : a.week ≤ b.week
  n : b.night = a.night
  m : a.minor ≤ b.minor
theorem relax_lim {p : Pl} {l : Li} (h : LimLe p.lim l) (hf : (bestC p).found = true) : (bestC (limP p l)).found = true ∧ (bestC (limP p l)).cost ≤ (bestC p).cost := by
  refine best_le (fun ro hr hw => ⟨ro, hr, ?_, ?_⟩) hf
  · rw [workB_iff] at *
    intro w hlt
    have := violW_nil.1 (hw w hlt)
    refine violW_nil.2 ⟨this.1, this.2.1, this.2.2.1.imp fun {d e} hd => ?_, fun day hday => ?_, fun hm d hd => ?_, fun hmi day hday => ?_⟩
    · unfold restB at *
      rw [decide_eq_false_iff_not] at *
      have := h.r
      show ¬ restR (p.duties.getD d default) (p.duties.getD e default) < l.rest
      omega
    · exact Int.le_trans (this.2.2.2.1 day hday) h.w
    · have h5 := this.2.2.2.2.1 hm d hd
      unfold niB nightD at *
      show decide (winZ l.night (dStr p (p.duties.getD d default)) ≠ 0) = false
      rw [h.n]
      exact h5
    · exact Int.le_trans (this.2.2.2.2.2 hmi day hday) h.m
  · exact Int.le_of_eq (cost_same fun _ _ => rfl)
/-! the workers -/
def wksP (p : Pl) (ws : List Wk) : Pl := { p with workers := ws }
theorem mineR_none {ro : List Int} {w : Int} (h : ∀ x ∈ ro, x ≠ w) : mineR ro w = [] := by
  unfold mineR
  rw [List.filter_eq_nil_iff]
  intro i hi
  rw [List.mem_range] at hi
  rw [decide_eq_true_eq]
  exact fun e => h _ (by rw [← e]; simp [List.getD, hi]) rfl
theorem relax_wk {p : Pl} {ws : List Wk} (hl : p.workers.length ≤ ws.length) (hw : ∀ k, k < p.workers.length → (ws.getD k default).wage = (p.workers.getD k default).wage ∧ (ws.getD k default).minor = (p.workers.getD k default).minor ∧ (ws.getD k default).away = (p.workers.getD k default).away ∧ ∀ d, skB (p.workers.getD k default) d = false → skB (ws.getD k default) d = false)
    (hf : (bestC p).found = true) : (bestC (wksP p ws)).found = true ∧ (bestC (wksP p ws)).cost ≤ (bestC p).cost := by
  refine best_le (fun ro hr hb => ⟨ro, ?_, ?_, ?_⟩) hf
  · have := all_mem.1 hr
    refine all_mem.2 ⟨this.1, fun w hw => ?_⟩
    have := this.2 w hw
    show 0 ≤ w ∧ w < (ws.length : Int)
    omega
  · have hm := all_mem.1 hr
    rw [workB_iff] at *
    intro w hlt
    by_cases h : w < p.workers.length
    · have := violW_nil.1 (hb w h)
      obtain ⟨_, a2, a3, a4⟩ := hw w h
      refine violW_nil.2 ⟨fun d hd => a4 _ (this.1 d hd), fun d hd => ?_, this.2.2.1, this.2.2.2.1, fun hm d hd => ?_, fun hmi day hday => ?_⟩
      · have h2 := this.2.1 d hd
        unfold awB at *
        show meetB (ws.getD w default).away _ = false
        rw [a3]
        exact h2
      · exact this.2.2.2.2.1 (by rw [← a2]; exact hm) d hd
      · exact this.2.2.2.2.2 (by rw [← a2]; exact hmi) day hday
    · rw [mineR_none fun x hx => by have := hm.2 x hx; omega, violW_nil]
      simp [trip]
  · refine Int.le_of_eq (cost_same fun w hw' => ?_)
    have := (all_mem.1 hr).2 w hw'
    exact (hw w.toNat (by omega)).1
theorem relax_more {p : Pl} (w : Wk) (hf : (bestC p).found = true) : (bestC (wksP p (p.workers ++ [w]))).found = true ∧ (bestC (wksP p (p.workers ++ [w]))).cost ≤ (bestC p).cost := by
  refine relax_wk (by simp) (fun k hk => ?_) hf
  have : (p.workers ++ [w]).getD k default = p.workers.getD k default := by simp [List.getD, List.getElem?_append_left hk]
  rw [this]
  exact ⟨rfl, rfl, rfl, fun _ h => h⟩
def moreSk (x : Wk) (s : Int) : Wk := { x with skill := s }
theorem and_or_sub {d a b : Nat} (h : d - (d &&& a) = 0) : d - (d &&& (a ||| b)) = 0 := by
  have h1 : d &&& a ≤ d := Nat.and_le_left
  have h2 : d &&& a = d := by omega
  have h3 : d &&& (a ||| b) = d := by
    apply Nat.eq_of_testBit_eq
    intro i
    have := congrArg (fun x => x.testBit i) h2
    simp only [Nat.testBit_and, Nat.testBit_or] at this ⊢
    cases hd : d.testBit i <;> simp_all
  omega
theorem relax_sk {p : Pl} {k : Nat} {s : Int} {b : Nat} (hk : k < p.workers.length) (hs : s.toNat = (p.workers.getD k default).skill.toNat ||| b) (hf : (bestC p).found = true) :
    (bestC (wksP p (p.workers.set k (moreSk (p.workers.getD k default) s)))).found = true ∧ (bestC (wksP p (p.workers.set k (moreSk (p.workers.getD k default) s)))).cost ≤ (bestC p).cost := by
  refine relax_wk (by simp) (fun j hj => ?_) hf
  by_cases e : k = j
  · subst e
    have : (p.workers.set k (moreSk (p.workers.getD k default) s)).getD k default = moreSk (p.workers.getD k default) s := by simp [List.getD, hk]
    rw [this]
    refine ⟨rfl, rfl, rfl, fun d h => ?_⟩
    unfold skB at *
    rw [decide_eq_false_iff_not, Classical.not_not] at *
    show d.skill.toNat - (d.skill.toNat &&& s.toNat) = 0
    rw [hs]
    exact and_or_sub h
  · have : (p.workers.set k (moreSk (p.workers.getD k default) s)).getD j default = p.workers.getD j default := by simp [List.getD, e]
    rw [this]
    exact ⟨rfl, rfl, rfl, fun _ h => h⟩
/-! a duty less -/
def lessP (p : Pl) (k : Nat) : Pl := { p with duties := p.duties.take k ++ p.duties.drop (k + 1) }
def bump (k i : Nat) : Nat := if i < k then i else i + 1
theorem less_get {α : Type} [Inhabited α] {l : List α} {k i : Nat} (hk : k < l.length) : (l.take k ++ l.drop (k + 1)).getD i default = l.getD (bump k i) default := by
  unfold bump
  by_cases h : i < k
  · rw [if_pos h]
    simp only [List.getD, List.getElem?_append_left (by rw [List.length_take]; omega : i < (l.take k).length), List.getElem?_take, if_pos h]
  · rw [if_neg h]
    simp only [List.getD, List.getElem?_append_right (by rw [List.length_take]; omega : (l.take k).length ≤ i), List.getElem?_drop, List.length_take]
    rw [show k + 1 + (i - min k l.length) = i + 1 by omega]
theorem bump_lt {k : Nat} : ∀ {i j : Nat}, i < j → bump k i < bump k j := by
  intro i j h
  unfold bump
  split <;> split <;> omega
theorem less_len {α : Type} {l : List α} {k : Nat} (hk : k < l.length) : (l.take k ++ l.drop (k + 1)).length = l.length - 1 := by simp; omega
theorem asc_sub : ∀ {a b : List Nat}, a.Pairwise (· < ·) → b.Pairwise (· < ·) → (∀ x ∈ a, x ∈ b) → a.Sublist b
  | [], _, _, _, _ => List.nil_sublist _
  | x :: a, [], _, _, h => absurd (h x (by simp)) (by simp)
  | x :: a, y :: b, ha, hb, h => by
    rw [List.pairwise_cons] at ha hb
    by_cases e : x = y
    · subst e
      refine (asc_sub ha.2 hb.2 fun z hz => ?_).cons_cons _
      have h1 := ha.1 z hz
      rcases List.mem_cons.1 (h z (by simp [hz])) with rfl | h2
      · omega
      · exact h2
    · refine (asc_sub (a := x :: a) (List.pairwise_cons.2 ha) hb.2 fun z hz => ?_).cons _
      have hx : x ∈ b := (List.mem_cons.1 (h x (by simp))).resolve_left e
      have hyx := hb.1 x hx
      rcases List.mem_cons.1 (h z hz) with rfl | h2
      · rcases List.mem_cons.1 hz with rfl | hz
        · exact absurd rfl e
        · have := ha.1 _ hz; omega
      · exact h2
theorem mine_memL {ro : List Int} {w : Int} {d : Nat} : d ∈ mineR ro w ↔ d < ro.length ∧ ro.getD d default = w := by
  unfold mineR
  rw [List.mem_filter, List.mem_range, decide_eq_true_eq]
theorem less_mine {ro : List Int} {k : Nat} (hk : k < ro.length) (w : Int) : ((mineR (ro.take k ++ ro.drop (k + 1)) w).map (bump k)).Sublist (mineR ro w) := by
  refine asc_sub ?_ (List.pairwise_lt_range.filter _) fun x hx => ?_
  · rw [List.pairwise_map]
    exact (List.pairwise_lt_range.filter _).imp fun h => bump_lt h
  · obtain ⟨i, hi, rfl⟩ := List.mem_map.1 hx
    have := mine_memL.1 hi
    rw [less_len hk, less_get hk] at this
    exact mine_memL.2 ⟨by unfold bump; split <;> omega, this.2⟩
theorem less_viol {p : Pl} {k w : Nat} {m : List Nat} (hk : k < p.duties.length) (h : violW p w (m.map (bump k)) = []) : violW (lessP p k) w m = [] := by
  have hg : ∀ d, (lessP p k).duties.getD d default = p.duties.getD (bump k d) default := fun d => less_get hk
  have h1 : unB (lessP p k) (p.workers.getD w default) m = unB p (p.workers.getD w default) (m.map (bump k)) := by
    unfold unB
    rw [List.any_map]
    congr 1
    funext d
    simp only [Function.comp]
    rw [hg d]
    rfl
  have h2 : restA (lessP p k) m = restA p (m.map (bump k)) := by
    have e : ∀ d e, restB (lessP p k) d e = restB p (bump k d) (bump k e) := fun d e => by
      unfold restB
      rw [hg, hg]
      rfl
    have hf : restA (lessP p k) m = false ↔ restA p (m.map (bump k)) = false := by
      rw [restA_f, restA_f, List.pairwise_map]
      simp only [e]
    cases h3 : restA p (m.map (bump k)) with
    | false => exact hf.2 h3
    | true =>
      cases h4 : restA (lessP p k) m with
      | false => rw [hf.1 h4] at h3; cases h3
      | true => rfl
  have h3 : ovB (lessP p k) (p.workers.getD w default) m = ovB p (p.workers.getD w default) (m.map (bump k)) := by
    refine ov_of rfl ?_
    rw [trip_map, trip_map, List.flatMap_map]
    refine List.Perm.of_eq ?_
    congr 1
    funext d
    rw [hg d]
    rfl
  have h4 : violK (lessP p k) (p.workers.getD w default) m = violK p (p.workers.getD w default) (m.map (bump k)) := by
    unfold violK
    rw [h1, h2, h3]
  have h5 := violK_f.2 h
  rw [← h4] at h5
  exact (violK_f (p := lessP p k)).1 h5
theorem relax_less {p : Pl} {k : Nat} (hp : PosP p) (hk : k < p.duties.length) (hc : ∀ w ∈ p.workers, 0 ≤ w.wage) (hd : ∀ d ∈ p.duties, 0 ≤ minD d) (hf : (bestC p).found = true) : (bestC (lessP p k)).found = true ∧ (bestC (lessP p k)).cost ≤ (bestC p).cost := by
  refine best_le (fun ro hr hw => ⟨ro.take k ++ ro.drop (k + 1), ?_, ?_, ?_⟩) hf
  · have := all_mem.1 hr
    refine all_mem.2 ⟨?_, fun w hw => ?_⟩
    · rw [less_len (by omega)]
      show _ = (p.duties.take k ++ p.duties.drop (k + 1)).length
      rw [less_len hk, this.1]
    · refine this.2 w ?_
      rcases List.mem_append.1 hw with h | h
      · exact List.mem_of_mem_take h
      · exact List.mem_of_mem_drop h
  · have hm := all_mem.1 hr
    rw [workB_iff] at *
    intro w hlt
    exact less_viol hk (violW_sub (less_mine (by omega) w) (hp ro hm.1 w) (hw w hlt))
  · have hm := all_mem.1 hr
    have hkr : k < ro.length := by omega
    have e1 : ro = ro.take k ++ (ro[k] :: ro.drop (k + 1)) := by rw [← List.drop_eq_getElem_cons hkr, List.take_append_drop]
    have e2 : p.duties = p.duties.take k ++ (p.duties[k] :: p.duties.drop (k + 1)) := by rw [← List.drop_eq_getElem_cons hk, List.take_append_drop]
    have e3 : costP p ro p.duties = costP p (ro.take k) (p.duties.take k) + costP p (ro[k] :: ro.drop (k + 1)) (p.duties[k] :: p.duties.drop (k + 1)) := by
      conv => lhs; rw [e1, e2]
      exact costP_app p (by rw [List.length_take, List.length_take]; omega)
    have e4 : costP (lessP p k) (ro.take k ++ ro.drop (k + 1)) (lessP p k).duties = costP p (ro.take k) (p.duties.take k) + costP p (ro.drop (k + 1)) (p.duties.drop (k + 1)) := by
      have : costP (lessP p k) (ro.take k ++ ro.drop (k + 1)) (lessP p k).duties = costP p (ro.take k ++ ro.drop (k + 1)) (p.duties.take k ++ p.duties.drop (k + 1)) := cost_same fun _ _ => rfl
      rw [this]
      exact costP_app p (by rw [List.length_take, List.length_take]; omega)
    have hw0 := hm.2 _ (List.getElem_mem hkr)
    have hmem : p.workers.getD ro[k].toNat default ∈ p.workers := by
      have : ro[k].toNat < p.workers.length := by omega
      simp [List.getD, this]
    have hnn := Int.mul_nonneg (hc _ hmem) (hd _ (List.getElem_mem hk))
    rw [e3, e4, costP, if_pos hw0.1]
    unfold minD at hnn
    omega
end Go.Wage
