/-
  Plain part of chapter 20: the search for a roster of least cost.
  Conditions: those of each theorem.
-/
import Derived.Test.YtecemgicnboaaaaGreatGA
namespace Go.Wage
def minD (d : Du) : Int := d.to_ - d.frm
/-- what the duties from one on cost at least -/
def lstP (p : Pl) (d : Nat) : Int := ((p.duties.drop d).map fun x => cheapL p.workers * minD x).sum
def cleanB (p : Pl) (pre : List Int) : Bool := match pre.getLast? with
  | none => true
  | some w => (violW p w.toNat (mineR pre w.toNat)).isEmpty
structure BS where
  found : Bool
  best : List Int
  cost : Int
structure PS where
  fuel : Int
  bs : BS
def wageP (p : Pl) (w : Nat) : Int := (p.workers.getD w default).wage
/-- the longer prefixes, one after the other -/
def extP {σ : Type} (F : Nat → σ → σ × Int) : Nat → Nat → σ → σ × Int
  | 0, _, s => (s, 0)
  | k + 1, w, s => if (F w s).2 = 0 then extP F k (w + 1) (F w s).1 else F w s
def impP (p : Pl) : Nat → List Int → Int → PS → PS × Int
  | 0, pre, c, s => if s.fuel - 1 < 0 then (⟨s.fuel - 1, s.bs⟩, 201) else
      if (s.bs.found && decide (s.bs.cost ≤ c + lstP p pre.length)) || !cleanB p pre then (⟨s.fuel - 1, s.bs⟩, 0) else (⟨s.fuel - 1, ⟨true, pre, c⟩⟩, 0)
  | m + 1, pre, c, s => if s.fuel - 1 < 0 then (⟨s.fuel - 1, s.bs⟩, 201) else
      if (s.bs.found && decide (s.bs.cost ≤ c + lstP p pre.length)) || !cleanB p pre then (⟨s.fuel - 1, s.bs⟩, 0) else
        extP (fun (w : Nat) s => impP p m (pre ++ [(w : Int)]) (c + wageP p w * minD (p.duties.getD pre.length default)) s) p.workers.length 0 ⟨s.fuel - 1, s.bs⟩
/-- the complete rosters that begin with a prefix -/
def comp (W : Nat) : Nat → List Int → List (List Int)
  | 0, pre => [pre]
  | m + 1, pre => (List.range W).flatMap fun w : Nat => comp W m (pre ++ [(w : Int)])
def workB (p : Pl) (ro : List Int) : Bool := (badP p ro).isEmpty
def upd (p : Pl) (s : BS) (ro : List Int) : BS := if workB p ro && (!s.found || decide (costP p ro p.duties < s.cost)) then ⟨true, ro, costP p ro p.duties⟩ else s
theorem extP_fold {σ β : Type} {F : Nat → σ → σ × Int} {pr : σ → β} {G : Nat → β → β} : ∀ (k w : Nat) (s : σ), (∀ v s, w ≤ v → v < w + k → (F v s).2 = 0 → pr (F v s).1 = G v (pr s)) → (extP F k w s).2 = 0 →
    pr (extP F k w s).1 = ((List.range k).map (w + ·)).foldl (fun b v => G v b) (pr s)
  | 0, w, s, _, _ => rfl
  | k + 1, w, s, h, h0 => by
    rw [extP] at h0 ⊢
    by_cases hf : (F w s).2 = 0
    · rw [if_pos hf] at h0 ⊢
      have ih := extP_fold (pr := pr) (G := G) k (w + 1) (F w s).1 (fun v s h1 h2 h3 => h v s (by omega) (by omega) h3) h0
      rw [ih, h w s (Nat.le_refl _) (by omega) hf]
      rw [List.range_succ_eq_map, List.map_cons, List.foldl_cons, Nat.add_zero, List.map_map]
      congr 1
      apply List.map_congr_left
      intro x _
      simp only [Function.comp]
      omega
    · rw [if_neg hf] at h0
      exact absurd h0 hf
theorem fold_flat {α β : Type} (f : β → α → β) (g : Nat → List α) (b : β) : ∀ l : List Nat, (l.flatMap g).foldl f b = l.foldl (fun b v => (g v).foldl f b) b := by
  intro l
  induction l generalizing b with
  | nil => rfl
  | cons x l ih => rw [List.flatMap_cons, List.foldl_append, List.foldl_cons, ih]
theorem comp_ext {W : Nat} : ∀ {m : Nat} {pre ro : List Int}, ro ∈ comp W m pre → ∃ e : List Int, ro = pre ++ e ∧ e.length = m ∧ ∀ w ∈ e, 0 ≤ w ∧ w < W
  | 0, pre, ro, h => by
    rw [comp, List.mem_singleton] at h
    exact ⟨[], by simp [h], rfl, by simp⟩
  | m + 1, pre, ro, h => by
    rw [comp, List.mem_flatMap] at h
    obtain ⟨w, hw, h⟩ := h
    rw [List.mem_range] at hw
    obtain ⟨e, rfl, h1, h2⟩ := comp_ext h
    exact ⟨(w : Int) :: e, by simp, by simp [h1], fun x hx => by
      rcases List.mem_cons.1 hx with rfl | hx
      · omega
      · exact h2 x hx⟩
theorem comp_all {W : Nat} : ∀ {e pre : List Int}, (∀ w ∈ e, 0 ≤ w ∧ w < W) → pre ++ e ∈ comp W e.length pre
  | [], pre, _ => by simp [comp]
  | w :: e, pre, h => by
    rw [List.length_cons, comp, List.mem_flatMap]
    have h1 := h w (by simp)
    refine ⟨w.toNat, List.mem_range.2 (by omega), ?_⟩
    have := comp_all (W := W) (e := e) (pre := pre ++ [w]) fun x hx => h x (by simp [hx])
    rw [show ((w.toNat : Nat) : Int) = w by omega]
    rwa [List.append_assoc] at this
/-! costs -/
theorem cheap_leW : ∀ {l : List Wk} {w : Wk}, w ∈ l → cheapL l ≤ w.wage
  | [], _, h => by cases h
  | x :: l, w, h => by
    have key : ∀ (l : List Wk) (c : Int), (l.foldl (fun c x => if x.wage < c then x.wage else c) c ≤ c) ∧ ∀ w ∈ l, l.foldl (fun c x => if x.wage < c then x.wage else c) c ≤ w.wage := by
      intro l
      induction l with
      | nil => intro c; exact ⟨Int.le_refl _, by simp⟩
      | cons x l ih =>
        intro c
        rw [List.foldl_cons]
        have := ih (if x.wage < c then x.wage else c)
        refine ⟨?_, fun w hw => ?_⟩
        · have h1 := this.1
          split at h1
          · rename_i hh; rw [if_pos hh]; omega
          · rename_i hh; rw [if_neg hh]; omega
        · rcases List.mem_cons.1 hw with rfl | hw
          · have h1 := this.1
            split at h1
            · rename_i hh; rw [if_pos hh]; omega
            · rename_i hh; rw [if_neg hh]; omega
          · exact this.2 w hw
    rcases List.mem_cons.1 h with rfl | h
    · exact (key l w.wage).1
    · exact (key l x.wage).2 w h
theorem costP_app (p : Pl) : ∀ {a b : List Int} {x y : List Du}, a.length = x.length → costP p (a ++ b) (x ++ y) = costP p a x + costP p b y
  | [], b, [], y, _ => by simp [costP]
  | w :: a, b, d :: x, y, h => by
    rw [List.cons_append, List.cons_append, costP, costP, costP_app p (a := a) (b := b) (x := x) (y := y) (by simpa using h)]
    omega
  | [], _, _ :: _, _, h => by simp at h
  | _ :: _, _, [], _, h => by simp at h
theorem lst_le (p : Pl) : ∀ {e : List Int} {ds : List Du}, e.length = ds.length → (∀ w ∈ e, 0 ≤ w ∧ w < p.workers.length) → (∀ d ∈ ds, 0 ≤ minD d) → (ds.map fun x => cheapL p.workers * minD x).sum ≤ costP p e ds
  | [], [], _, _, _ => by simp [costP]
  | w :: e, d :: ds, h, hw, hd => by
    have ih := lst_le p (e := e) (ds := ds) (by simpa using h) (fun x hx => hw x (by simp [hx])) fun x hx => hd x (by simp [hx])
    have h1 := hw w (by simp)
    have h2 := hd d (by simp)
    have hm : p.workers.getD w.toNat default ∈ p.workers := by
      have : w.toNat < p.workers.length := by omega
      simp [List.getD, this]
    have := Int.mul_le_mul_of_nonneg_right (cheap_leW hm) h2
    rw [List.map_cons, List.sum_cons, costP, if_pos h1.1]
    simp only [minD] at this ih ⊢
    omega
  | [], _ :: _, h, _, _ => by simp at h
  | _ :: _, [], h, _, _ => by simp at h
/-- what a prefix leaves open -/
structure PreOk (p : Pl) (m : Nat) (pre : List Int) : Prop where
  l : pre.length + m = p.duties.length
  w : ∀ w ∈ pre, 0 ≤ w ∧ w < p.workers.length
theorem comp_cost {p : Pl} (hd : ∀ d ∈ p.duties, 0 ≤ minD d) {m : Nat} {pre ro : List Int} (h : PreOk p m pre) (hr : ro ∈ comp p.workers.length m pre) : costP p pre (p.duties.take pre.length) + lstP p pre.length ≤ costP p ro p.duties := by
  obtain ⟨e, rfl, h1, h2⟩ := comp_ext hr
  have hl := h.l
  have e1 : costP p (pre ++ e) p.duties = costP p pre (p.duties.take pre.length) + costP p e (p.duties.drop pre.length) := by
    have := costP_app p (a := pre) (b := e) (x := p.duties.take pre.length) (y := p.duties.drop pre.length) (by rw [List.length_take]; omega)
    rwa [List.take_append_drop] at this
  have := lst_le p (e := e) (ds := p.duties.drop pre.length) (by rw [List.length_drop]; omega) h2 fun d hd' => hd d (List.mem_of_mem_drop hd')
  unfold lstP
  omega
/-! violations of longer prefixes -/
theorem getD_appW {a b : List Int} {i : Nat} (h : i < a.length) : (a ++ b).getD i default = a.getD i default := by simp [List.getD, List.getElem?_append_left h]
theorem mineR_app (a b : List Int) (w : Int) : (mineR a w).Sublist (mineR (a ++ b) w) := by
  unfold mineR
  rw [List.length_append, List.range_add, List.filter_append]
  have : (List.range a.length).filter (fun i => decide ((a ++ b).getD i default = w)) = (List.range a.length).filter fun i => decide (a.getD i default = w) := by
    apply List.filter_congr
    intro i hi
    rw [List.mem_range] at hi
    rw [getD_appW hi]
  rw [this]
  exact List.sublist_append_left _ _
theorem mineR_snoc (a : List Int) (x w : Int) : mineR (a ++ [x]) w = mineR a w ++ if x = w then [a.length] else [] := by
  unfold mineR
  rw [List.length_append, List.length_cons, List.length_nil, List.range_succ, List.filter_append]
  have : (List.range a.length).filter (fun i => decide ((a ++ [x]).getD i default = w)) = (List.range a.length).filter fun i => decide (a.getD i default = w) := by
    apply List.filter_congr
    intro i hi
    rw [List.mem_range] at hi
    rw [getD_appW hi]
  rw [this]
  congr 1
  by_cases h : x = w
  · simp [List.getD, h]
  · simp [List.getD, h]
def okPre (p : Pl) (pre : List Int) : Prop := ∀ w, w < p.workers.length → violW p w (mineR pre w) = []
theorem clean_snoc {p : Pl} {pre : List Int} {x : Nat} : cleanB p (pre ++ [(x : Int)]) = (violW p x (mineR (pre ++ [(x : Int)]) x)).isEmpty := by
  unfold cleanB
  simp
theorem clean_ok {p : Pl} {pre : List Int} {x : Nat} (h : okPre p pre) (hc : cleanB p (pre ++ [(x : Int)]) = true) : okPre p (pre ++ [(x : Int)]) := by
  intro w hw
  by_cases e : w = x
  · subst e
    rw [clean_snoc] at hc
    exact List.isEmpty_iff.1 hc
  · rw [mineR_snoc, if_neg (by omega), List.append_nil]
    exact h w hw
/-- every worker's minutes are positive -/
def PosP (p : Pl) : Prop := ∀ ro : List Int, ro.length = p.duties.length → ∀ w : Nat, posT (trip p (mineR ro w))
theorem not_clean {p : Pl} (hp : PosP p) {m : Nat} {pre ro : List Int} {x : Nat} (hx : x < p.workers.length) (h : PreOk p m (pre ++ [(x : Int)])) (hr : ro ∈ comp p.workers.length m (pre ++ [(x : Int)])) (hc : cleanB p (pre ++ [(x : Int)]) = false) : workB p ro = false := by
  obtain ⟨e, rfl, h1, h2⟩ := comp_ext hr
  rw [clean_snoc] at hc
  refine Bool.eq_false_iff.2 fun hb => ?_
  unfold workB at hb
  rw [List.isEmpty_iff, badP_nil] at hb
  have := violW_sub (mineR_app (pre ++ [(x : Int)]) e x) (hp _ (by rw [List.length_append, h1]; exact h.l) x) (hb x hx)
  rw [this] at hc
  cases hc
theorem fold_id {p : Pl} {s : BS} : ∀ {l : List (List Int)}, (∀ ro ∈ l, upd p s ro = s) → l.foldl (upd p) s = s
  | [], _ => rfl
  | ro :: l, h => by rw [List.foldl_cons, h ro (by simp), fold_id fun x hx => h x (by simp [hx])]
theorem impP_spec {p : Pl} (hd : ∀ d ∈ p.duties, 0 ≤ minD d) (hp : PosP p) : ∀ (m : Nat) (pre : List Int) (c : Int) (s : PS), PreOk p m pre → c = costP p pre (p.duties.take pre.length) → (∀ q (x : Nat), pre = q ++ [(x : Int)] → x < p.workers.length ∧ okPre p q) → (impP p m pre c s).2 = 0 →
    (impP p m pre c s).1.bs = (comp p.workers.length m pre).foldl (upd p) s.bs
  | m, pre, c, s, h, hc, hq, h0 => by
    have hlast : cleanB p pre = true → okPre p pre := fun hcl => by
      rcases List.eq_nil_or_concat pre with rfl | ⟨q, x, rfl⟩
      · intro w _
        have : mineR [] (w : Int) = [] := rfl
        rw [this, violW_nil]
        simp [trip]
      · rw [List.concat_eq_append] at *
        have hx := h.w x (by simp)
        obtain ⟨y, rfl⟩ := Int.eq_ofNat_of_zero_le hx.1
        have := hq q y rfl
        exact clean_ok this.2 hcl
    have hprune : s.bs.found = true → s.bs.cost ≤ c + lstP p pre.length → s.bs = (comp p.workers.length m pre).foldl (upd p) s.bs := fun h1 h2 => by
      refine (fold_id fun ro hro => ?_).symm
      have := comp_cost hd h hro
      unfold upd
      rw [if_neg]
      rw [h1]
      simp only [Bool.not_true, Bool.false_or, Bool.and_eq_true, decide_eq_true_eq]
      omega
    have hdirty : cleanB p pre = false → s.bs = (comp p.workers.length m pre).foldl (upd p) s.bs := fun hcl => by
      rcases List.eq_nil_or_concat pre with rfl | ⟨q, x, rfl⟩
      · cases hcl
      · rw [List.concat_eq_append] at *
        have hx := h.w x (by simp)
        obtain ⟨y, rfl⟩ := Int.eq_ofNat_of_zero_le hx.1
        have := hq q y rfl
        refine (fold_id fun ro hro => ?_).symm
        unfold upd
        rw [not_clean hp this.1 h hro hcl, Bool.false_and, if_neg (by decide)]
    have hcut : ((s.bs.found && decide (s.bs.cost ≤ c + lstP p pre.length)) || !cleanB p pre) = true → s.bs = (comp p.workers.length m pre).foldl (upd p) s.bs := fun hh => by
      rw [Bool.or_eq_true, Bool.and_eq_true, decide_eq_true_eq, Bool.not_eq_true'] at hh
      rcases hh with hh | hh
      · exact hprune hh.1 hh.2
      · exact hdirty hh
    cases m with
    | zero =>
      rw [impP] at h0 ⊢
      by_cases hf : s.fuel - 1 < 0
      · rw [if_pos hf] at h0; cases h0
      · rw [if_neg hf] at h0 ⊢
        by_cases hh : ((s.bs.found && decide (s.bs.cost ≤ c + lstP p pre.length)) || !cleanB p pre) = true
        · rw [if_pos hh]; exact hcut hh
        · rw [if_neg hh]
          rw [Bool.or_eq_true, Bool.and_eq_true, decide_eq_true_eq, Bool.not_eq_true'] at hh
          have hcl : cleanB p pre = true := by
            cases hb : cleanB p pre
            · exact absurd (.inr hb) hh
            · rfl
          have hl := h.l
          have hz : lstP p pre.length = 0 := by unfold lstP; rw [List.drop_eq_nil_of_le (by omega)]; rfl
          have e : p.duties.take pre.length = p.duties := List.take_of_length_le (by omega)
          rw [e] at hc
          have hwk : workB p pre = true := by
            unfold workB
            rw [List.isEmpty_iff, badP_nil]
            exact hlast hcl
          rw [comp, List.foldl_cons, List.foldl_nil]
          unfold upd
          rw [hwk, if_pos, hc]
          rw [Bool.true_and, Bool.or_eq_true, Bool.not_eq_true', decide_eq_true_eq]
          cases hb : s.bs.found
          · exact .inl rfl
          · right
            have : ¬ s.bs.cost ≤ c + lstP p pre.length := fun h => hh (.inl ⟨hb, h⟩)
            omega
    | succ m =>
      rw [impP] at h0 ⊢
      by_cases hf : s.fuel - 1 < 0
      · rw [if_pos hf] at h0; cases h0
      · rw [if_neg hf] at h0 ⊢
        by_cases hh : ((s.bs.found && decide (s.bs.cost ≤ c + lstP p pre.length)) || !cleanB p pre) = true
        · rw [if_pos hh]; exact hcut hh
        · rw [if_neg hh] at h0 ⊢
          have hcl : cleanB p pre = true := by
            rw [Bool.or_eq_true, Bool.not_eq_true'] at hh
            cases hb : cleanB p pre
            · exact absurd (.inr hb) hh
            · rfl
          have hl := h.l
          have hlt : pre.length < p.duties.length := by omega
          have := extP_fold (pr := PS.bs) (F := fun (w : Nat) s => impP p m (pre ++ [(w : Int)]) (c + wageP p w * minD (p.duties.getD pre.length default)) s) (G := fun w b => (comp p.workers.length m (pre ++ [(w : Int)])).foldl (upd p) b) p.workers.length 0 ⟨s.fuel - 1, s.bs⟩ (fun v s' _ hv h1 => by
            refine impP_spec hd hp m _ _ s' ⟨by simp; omega, fun x hx => ?_⟩ ?_ (fun q x e => ?_) h1
            · rcases List.mem_append.1 hx with hx | hx
              · exact h.w x hx
              · rw [List.mem_singleton] at hx; omega
            · rw [List.length_append, List.length_cons, List.length_nil, List.take_succ_eq_append_getElem hlt, costP_app p (by rw [List.length_take]; omega), ← hc]
              have e5 : p.duties.getD pre.length default = p.duties[pre.length] := by simp [List.getD, hlt]
              have e6 : costP p [(v : Int)] [p.duties[pre.length]] = wageP p v * minD p.duties[pre.length] := by simp [costP, wageP, minD]
              rw [e5, e6]
            · have e2 := List.append_inj' e rfl
              have : x = v := by have := e2.2; simp only [List.cons.injEq, and_true] at this; omega
              rw [← e2.1, this]
              exact ⟨by omega, hlast hcl⟩) h0
          rw [this, comp, fold_flat]
          simp
/-- numbers that stay in range -/
structure OkS (s : PS) : Prop where
  f : 0 ≤ s.fuel ∧ s.fuel ≤ 100000
  c : 0 ≤ s.bs.cost ∧ s.bs.cost ≤ 1000000000000
theorem extP_ok {σ : Type} {Q : σ → Prop} {F : Nat → σ → σ × Int} : ∀ (k w : Nat) (s : σ), (∀ v s, w ≤ v → v < w + k → Q s → (F v s).2 = 0 → Q (F v s).1) → Q s → (extP F k w s).2 = 0 → Q (extP F k w s).1
  | 0, _, _, _, hq, _ => hq
  | k + 1, w, s, h, hq, h0 => by
    rw [extP] at h0 ⊢
    by_cases hf : (F w s).2 = 0
    · rw [if_pos hf] at h0 ⊢
      exact extP_ok k (w + 1) _ (fun v s h1 h2 => h v s (by omega) (by omega)) (h w s (Nat.le_refl _) (by omega) hq hf) h0
    · rw [if_neg hf] at h0
      exact absurd h0 hf
theorem impP_ok {p : Pl} (hd : ∀ d ∈ p.duties, 0 ≤ minD d ∧ minD d ≤ 1440) (hw : ∀ w ∈ p.workers, 0 ≤ w.wage ∧ w.wage ≤ 1000000) : ∀ (m : Nat) (pre : List Int) (c : Int) (s : PS), pre.length + m = p.duties.length → p.duties.length ≤ 100 → (0 ≤ c ∧ c ≤ 1440000000 * pre.length) → OkS s → (impP p m pre c s).2 = 0 → OkS (impP p m pre c s).1
  | 0, pre, c, s, hl, h100, hc, hs, h0 => by
    have hf := hs.f
    rw [impP] at h0 ⊢
    split at h0
    · cases h0
    · rename_i h1
      rw [if_neg h1]
      split
      · exact ⟨by dsimp only; omega, hs.c⟩
      · exact ⟨by dsimp only; omega, by dsimp only; omega⟩
  | m + 1, pre, c, s, hl, h100, hc, hs, h0 => by
    have hf := hs.f
    rw [impP] at h0 ⊢
    split at h0
    · cases h0
    · rename_i h1
      rw [if_neg h1]
      split at h0
      · rename_i h2
        rw [if_pos h2]
        exact ⟨by dsimp only; omega, hs.c⟩
      · rename_i h2
        rw [if_neg h2]
        refine extP_ok _ _ _ (fun v s' _ hv hq h3 => impP_ok hd hw m _ _ s' (by simp; omega) h100 ?_ hq h3) ⟨by dsimp only; omega, hs.c⟩ h0
        have hm : p.workers.getD v default ∈ p.workers := by
          have : v < p.workers.length := by omega
          simp [List.getD, this]
        have hdm : p.duties.getD pre.length default ∈ p.duties := by
          have : pre.length < p.duties.length := by omega
          simp [List.getD, this]
        have a1 := hw _ hm
        have a2 := hd _ hdm
        have a3 := Int.mul_nonneg a1.1 a2.1
        have a4 := Int.mul_le_mul a1.2 a2.2 a2.1 (by omega : (0 : Int) ≤ 1000000)
        rw [List.length_append, List.length_cons, List.length_nil]
        unfold wageP
        omega
end Go.Wage
