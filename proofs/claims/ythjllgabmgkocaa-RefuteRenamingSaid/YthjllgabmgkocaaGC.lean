/-
  Plain part of chapter 21: two duties exchanged.
  Conditions: those of each theorem.
-/
import Derived.Test.YthjllgabmgkocaaGB
namespace Go.Wage
/-- two numbers exchanged -/
def swN (a b x : Nat) : Nat := if x = a then b else if x = b then a else x
def swI (a b x : Int) : Int := if x = a then b else if x = b then a else x
theorem swN_swN (a b x : Nat) : swN a b (swN a b x) = x := by
  unfold swN
  by_cases h1 : x = a
  · subst h1
    rw [if_pos rfl]
    by_cases h2 : b = x
    · rw [if_pos h2]; exact h2
    · rw [if_neg h2, if_pos rfl]
  · rw [if_neg h1]
    by_cases h2 : x = b
    · rw [if_pos h2, if_pos rfl, h2]
    · rw [if_neg h2, if_neg h1, if_neg h2]
theorem swI_swI (a b x : Int) : swI a b (swI a b x) = x := by
  unfold swI
  by_cases h1 : x = a
  · subst h1
    rw [if_pos rfl]
    by_cases h2 : b = x
    · rw [if_pos h2]; exact h2
    · rw [if_neg h2, if_pos rfl]
  · rw [if_neg h1]
    by_cases h2 : x = b
    · rw [if_pos h2, if_pos rfl, h2]
    · rw [if_neg h2, if_neg h1, if_neg h2]
theorem swI_inj {a b x y : Int} : swI a b x = swI a b y ↔ x = y :=
  ⟨fun h => by have := congrArg (swI a b) h; rwa [swI_swI, swI_swI] at this, fun h => by rw [h]⟩
theorem swI_nat (a b x : Nat) : swI a b x = (swN a b x : Nat) := by
  unfold swI swN
  by_cases h1 : x = a
  · rw [if_pos (by omega), if_pos h1]
  · rw [if_neg (by omega), if_neg h1]
    by_cases h2 : x = b
    · rw [if_pos (by omega), if_pos h2]
    · rw [if_neg (by omega), if_neg h2]
theorem swN_lt {a b n x : Nat} (ha : a < n) (hb : b < n) : swN a b x < n ↔ x < n := by
  unfold swN
  split
  · omega
  · split <;> omega
theorem swI_range {a b n : Nat} (ha : a < n) (hb : b < n) (x : Int) : (0 ≤ swI a b x ∧ swI a b x < n) ↔ (0 ≤ x ∧ x < n) := by
  unfold swI
  split
  · omega
  · split <;> omega
theorem swI_toNat {a b : Nat} {x : Int} (h : 0 ≤ x) : (swI a b x).toNat = swN a b x.toNat := by
  obtain ⟨k, rfl⟩ := Int.eq_ofNat_of_zero_le h
  rw [swI_nat, Int.toNat_natCast, Int.toNat_natCast]
/-- a list whose members a and b are exchanged -/
def swL {α : Type} [Inhabited α] (a b : Nat) (l : List α) : List α := (List.range l.length).map fun i => l.getD (swN a b i) default
theorem swL_len {α : Type} [Inhabited α] (a b : Nat) (l : List α) : (swL a b l).length = l.length := by simp [swL]
theorem swL_get {α : Type} [Inhabited α] {a b : Nat} {l : List α} {i : Nat} (h : i < l.length) : (swL a b l).getD i default = l.getD (swN a b i) default := by
  unfold swL
  simp [List.getD, h]
theorem sw_perm {a b n : Nat} (ha : a < n) (hb : b < n) : ((List.range n).map (swN a b)).Perm (List.range n) := by
  refine (List.perm_ext_iff_of_nodup ?_ List.nodup_range).2 fun x => ?_
  · unfold List.Nodup
    rw [List.pairwise_map]
    exact List.nodup_range.imp fun {x y} hxy e => hxy (by have := congrArg (swN a b) e; rwa [swN_swN, swN_swN] at this)
  · rw [List.mem_map, List.mem_range]
    constructor
    · rintro ⟨y, hy, rfl⟩
      exact (swN_lt ha hb).2 (List.mem_range.1 hy)
    · intro hx
      exact ⟨swN a b x, List.mem_range.2 ((swN_lt ha hb).2 hx), swN_swN a b x⟩
theorem range_getD {α : Type} [Inhabited α] (l : List α) : (List.range l.length).map (fun i => l.getD i default) = l := by
  apply List.ext_getElem
  · simp
  · intro i h1 h2
    simp [List.getD, h2]
theorem swL_perm {α : Type} [Inhabited α] {a b : Nat} {l : List α} (ha : a < l.length) (hb : b < l.length) : (swL a b l).Perm l := by
  have h := (sw_perm ha hb).map fun i => l.getD i default
  rw [range_getD, List.map_map] at h
  exact h
/-- two duties exchanged in a plan, a literal, a step -/
def renP (a b : Nat) (p : Pl) : Pl := { p with duties := swL a b p.duties }
def renL (a b : Nat) (l : Lt) : Lt := ⟨swI a b l.du, l.wk, l.is⟩
def renS (a b : Nat) (s : Sg) : Sg := ⟨s.cl.map (renL a b), s.rule, s.frm⟩
theorem renL_inj {a b : Nat} {x y : Lt} : renL a b x = renL a b y ↔ x = y := by
  constructor
  · intro h
    unfold renL at h
    injection h with h1 h2 h3
    rw [swI_inj] at h1
    cases x; cases y
    simp only at h1 h2 h3
    subst h1; subst h2; subst h3
    rfl
  · rintro rfl; rfl
theorem renL_negL {a b : Nat} {x : Lt} : negL (renL a b x) = renL a b (negL x) := rfl
theorem getD_map {α β : Type} [Inhabited α] [Inhabited β] {f : α → β} {l : List α} {i : Nat} (h : i < l.length) : (l.map f).getD i default = f (l.getD i default) := by
  simp [List.getD, h]
theorem contains_ren {a b : Nat} {held : List Lt} {x : Lt} : (held.map (renL a b)).contains (renL a b x) = held.contains x := by
  rw [Bool.eq_iff_iff]
  simp only [List.contains_iff_mem, List.mem_map]
  constructor
  · rintro ⟨y, hy, e⟩
    rw [renL_inj] at e
    subst e; exact hy
  · exact fun h => ⟨x, h, rfl⟩
theorem open_ren {a b : Nat} {held cl : List Lt} : openL (held.map (renL a b)) (cl.map (renL a b)) = (openL held cl).map (renL a b) := by
  unfold openL
  rw [List.filter_map]
  congr 1
  apply List.filter_congr
  intro l _
  simp only [Function.comp, renL_negL, contains_ren]
theorem same_ren {a b : Nat} {l : List Lt} : sameL (l.map (renL a b)) = sameL l := by
  unfold sameL
  rw [List.all_map, Bool.eq_iff_iff, List.all_eq_true, List.all_eq_true]
  have key : ∀ x ∈ l, (decide (renL a b x = (l.map (renL a b)).getD 0 default) = true ↔ decide (x = l.getD 0 default) = true) := fun x hx => by
    have : 0 < l.length := List.length_pos_iff.2 fun e => by rw [e] at hx; cases hx
    rw [getD_map this, decide_eq_true_eq, decide_eq_true_eq, renL_inj]
  exact ⟨fun h x hx => (key x hx).1 (h x hx), fun h x hx => (key x hx).2 (h x hx)⟩
theorem getD_ren {a b : Nat} {log : List Sg} {j : Nat} : (log.map (renS a b)).getD j default = renS a b (log.getD j default) := by
  by_cases h : j < log.length
  · exact getD_map h
  · simp only [List.getD, List.getElem?_eq_none (by simpa using h : (log.map (renS a b)).length ≤ j), List.getElem?_eq_none (by omega : log.length ≤ j), Option.getD_none]
    rfl
theorem unitF_ren {a b : Nat} {log : List Sg} : ∀ {ks : List Int} {held : List Lt}, unitF (log.map (renS a b)) ks (held.map (renL a b)) = unitF log ks held
  | [], _ => rfl
  | k :: ks, held => by
    rw [unitF, unitF, getD_ren]
    have e : (renS a b (log.getD k.toNat default)).cl = (log.getD k.toNat default).cl.map (renL a b) := rfl
    rw [e, open_ren, same_ren]
    by_cases h : openL held (log.getD k.toNat default).cl = []
    · rw [if_pos h, if_pos (by rw [h]; rfl)]
    · rw [if_neg h, if_neg (by simpa using h), getD_map (List.length_pos_iff.2 h)]
      have := unitF_ren (a := a) (b := b) (log := log) (ks := ks) (held := (openL held (log.getD k.toNat default).cl).getD 0 default :: held)
      rw [List.map_cons] at this
      rw [this]
theorem unitB_ren {a b : Nat} {log : List Sg} {k : Int} {s : Sg} : unitB (log.map (renS a b)) k (renS a b s) = unitB log k s := by
  unfold unitB
  have e1 : (renS a b s).frm = s.frm := rfl
  have e2 : (renS a b s).cl.map negL = (s.cl.map negL).map (renL a b) := by
    show (s.cl.map (renL a b)).map negL = _
    rw [List.map_map, List.map_map]
    rfl
  rw [e1, e2, unitF_ren]
theorem proper_ren {a b : Nat} {p : Pl} {l : Lt} (ha : a < p.duties.length) (hb : b < p.duties.length) : properB (renP a b p) (renL a b l) = properB p l := by
  rw [Bool.eq_iff_iff, properB_iff, properB_iff]
  have h := swI_range ha hb l.du
  have e : (renP a b p).duties.length = p.duties.length := swL_len _ _ _
  rw [e]
  show 0 ≤ swI a b l.du ∧ swI a b l.du < p.duties.length ∧ 0 ≤ l.wk ∧ l.wk < p.workers.length ↔ _
  constructor
  · rintro ⟨h1, h2, h3, h4⟩
    exact ⟨(h.1 ⟨h1, h2⟩).1, (h.1 ⟨h1, h2⟩).2, h3, h4⟩
  · rintro ⟨h1, h2, h3, h4⟩
    exact ⟨(h.2 ⟨h1, h2⟩).1, (h.2 ⟨h1, h2⟩).2, h3, h4⟩
theorem some_ren {a b : Nat} {p : Pl} {s : Sg} : someB (renP a b p) (renS a b s) = someB p s := by
  unfold someB
  have e1 : (renS a b s).frm = s.frm := rfl
  have e2 : (renS a b s).cl.length = s.cl.length := List.length_map ..
  have e3 : (renP a b p).duties.length = p.duties.length := swL_len _ _ _
  have e4 : (renP a b p).workers = p.workers := rfl
  rw [e1, e2, e3, e4]
  congr 1
  rw [Bool.eq_iff_iff, List.all_eq_true, List.all_eq_true]
  have key : ∀ i, i < s.cl.length → rowB (renS a b s).cl i = rowB s.cl i := fun i hi => by
    unfold rowB
    have : (renS a b s).cl = s.cl.map (renL a b) := rfl
    rw [this, getD_map hi, getD_map (by omega), decide_eq_decide]
    have e : (⟨(renL a b (s.cl.getD 0 default)).du, (i : Int), true⟩ : Lt) = renL a b ⟨(s.cl.getD 0 default).du, i, true⟩ := rfl
    rw [e, renL_inj]
  exact ⟨fun h i hi => by rw [← key i (List.mem_range.1 hi)]; exact h i hi, fun h i hi => by rw [key i (List.mem_range.1 hi)]; exact h i hi⟩
theorem one_ren {a b : Nat} {s : Sg} : oneB (renS a b s) = oneB s := by
  unfold oneB
  have e1 : (renS a b s).frm = s.frm := rfl
  have e2 : (renS a b s).cl = s.cl.map (renL a b) := rfl
  rw [e1, e2, List.length_map]
  by_cases h : s.cl.length = 2
  · rw [getD_map (by omega), getD_map (by omega)]
    congr 1
    have : decide ((renL a b (s.cl.getD 0 default)).du = (renL a b (s.cl.getD 1 default)).du) = decide ((s.cl.getD 0 default).du = (s.cl.getD 1 default).du) := by
      rw [decide_eq_decide]
      exact swI_inj
    rw [this]
    rfl
  · rw [decide_eq_false h, Bool.and_false, Bool.false_and, Bool.false_and]
theorem sw_set {a b : Nat} {ro : List Int} {j : Nat} {w : Int} (ha : a < ro.length) (hb : b < ro.length) (hj : j < ro.length) : (swL a b ro).set (swN a b j) w = swL a b (ro.set j w) := by
  apply List.ext_getElem
  · rw [List.length_set, swL_len, swL_len, List.length_set]
  · intro i h1 h2
    have hi : i < ro.length := by rwa [List.length_set, swL_len] at h1
    have e : ∀ (l : List Int) (h : i < (swL a b l).length), (swL a b l)[i] = l.getD (swN a b i) default := fun l h => by simp [swL]
    have hs := (swN_lt (x := i) ha hb).2 hi
    rw [List.getElem_set, e, e]
    by_cases hij : swN a b j = i
    · rw [if_pos hij, ← hij, swN_swN]
      simp [List.getD, hj]
    · rw [if_neg hij]
      have : j ≠ swN a b i := fun h => hij (by rw [h, swN_swN])
      simp [List.getD, this]
theorem denL_ren {a b : Nat} : ∀ {cl : List Lt} {ro : List Int}, a < ro.length → b < ro.length → (∀ l ∈ cl, 0 ≤ l.du ∧ l.du < ro.length) → denL (cl.map (renL a b)) (swL a b ro) = (denL cl ro).map (swL a b)
  | [], ro, _, _, _ => rfl
  | l :: cl, ro, ha, hb, h => by
    have h1 := h l (by simp)
    have hlt : l.du.toNat < ro.length := by omega
    have e1 : (renL a b l).du.toNat = swN a b l.du.toNat := swI_toNat h1.1
    have e2 : (swL a b ro).getD (swN a b l.du.toNat) default = ro.getD l.du.toNat default := by
      rw [swL_get ((swN_lt ha hb).2 hlt), swN_swN]
    rw [List.map_cons, denL, denL, e1, e2, sw_set ha hb hlt]
    show (if (!l.is && _) = true then denL (cl.map (renL a b)) (swL a b (ro.set l.du.toNat l.wk)) else none) = _
    split
    · exact denL_ren (by rw [List.length_set]; exact ha) (by rw [List.length_set]; exact hb) fun x hx => by rw [List.length_set]; exact h x (by simp [hx])
    · rfl
theorem perm_sumI {l m : List Int} (h : l.Perm m) : l.sum = m.sum := by
  induction h with
  | nil => rfl
  | cons x _ ih => simp [ih]
  | swap x y l => simp; omega
  | trans _ _ h1 h2 => rw [h1, h2]
theorem fullP_zip {p : Pl} : ∀ {ro : List Int} {ds : List Du}, fullP p ro ds = ((ro.zip ds).map fun q : Int × Du => (if 0 ≤ q.1 then (p.workers.getD q.1.toNat default).wage else cheapL p.workers) * (q.2.to_ - q.2.frm)).sum
  | w :: ro, d :: ds => by
    rw [fullP, fullP_zip (ro := ro) (ds := ds), List.zip_cons_cons, List.map_cons, List.sum_cons]
  | [], _ => by simp [fullP]
  | _ :: _, [] => by simp [fullP]
theorem swL_zip {a b : Nat} {ro : List Int} {ds : List Du} (h : ro.length = ds.length) (ha : a < ro.length) (hb : b < ro.length) : (swL a b ro).zip (swL a b ds) = swL a b (ro.zip ds) := by
  apply List.ext_getElem
  · rw [List.length_zip, swL_len, swL_len, swL_len, List.length_zip]
  · intro i h1 h2
    have hi : i < ro.length := by rw [List.length_zip, swL_len, swL_len] at h1; omega
    have hs := (swN_lt (x := i) ha hb).2 hi
    rw [List.getElem_zip]
    have e1 : ∀ {α : Type} [Inhabited α] (l : List α) (h : i < (swL a b l).length), (swL a b l)[i] = l.getD (swN a b i) default := fun l h => by simp [swL]
    rw [e1, e1, e1]
    have hz : swN a b i < (ro.zip ds).length := by rw [List.length_zip]; omega
    simp only [List.getD, List.getElem?_eq_getElem hs, List.getElem?_eq_getElem (by omega : swN a b i < ds.length), List.getElem?_eq_getElem hz, Option.getD_some, List.getElem_zip]
theorem full_ren {a b : Nat} {p : Pl} {ro : List Int} (h : ro.length = p.duties.length) (ha : a < p.duties.length) (hb : b < p.duties.length) : fullP (renP a b p) (swL a b ro) (renP a b p).duties = fullP p ro p.duties := by
  rw [fullP_zip, fullP_zip]
  show (((swL a b ro).zip (swL a b p.duties)).map _).sum = _
  rw [swL_zip h (by omega) (by omega)]
  exact perm_sumI ((swL_perm (by rw [List.length_zip]; omega) (by rw [List.length_zip]; omega)).map _)
theorem valid_ren {a b : Nat} {p : Pl} (ha : a < p.duties.length) (hb : b < p.duties.length) : validP (renP a b p) = validP p := by
  have e : (renP a b p).duties.all (dutyOk (renP a b p)) = p.duties.all (dutyOk p) := by
    rw [Bool.eq_iff_iff, List.all_eq_true, List.all_eq_true]
    have hp := swL_perm ha hb
    exact ⟨fun h d hd => h d (hp.mem_iff.2 hd), fun h d hd => h d (hp.mem_iff.1 hd)⟩
  unfold validP
  rw [e]
  have e2 : (renP a b p).duties.length = p.duties.length := swL_len _ _ _
  rw [e2]
  rfl
theorem restR_symm (x y : Du) : restR x y = restR y x := by
  unfold restR
  rw [Bool.and_comm]
  by_cases h : (duB y && duB x) = true
  · rw [if_pos h, if_pos h]
    rw [Bool.and_eq_true_iff] at h
    have h1 := h.1
    have h2 := h.2
    unfold duB at h1 h2
    rw [decide_eq_true_eq] at h1 h2
    split <;> split <;> omega
  · rw [if_neg h, if_neg h]
theorem mine_mem {ro : List Int} {w : Int} {d : Nat} : d ∈ mineR ro w ↔ d < ro.length ∧ ro.getD d default = w := by
  unfold mineR
  rw [List.mem_filter, List.mem_range, decide_eq_true_eq]
theorem mine_ren {a b : Nat} {ro : List Int} {w : Int} (ha : a < ro.length) (hb : b < ro.length) : (mineR (swL a b ro) w).Perm ((mineR ro w).map (swN a b)) := by
  refine (List.perm_ext_iff_of_nodup (List.nodup_range.filter _) ?_).2 fun x => ?_
  · unfold List.Nodup
    rw [List.pairwise_map]
    exact (List.nodup_range.filter _ : (mineR ro w).Nodup).imp fun {x y} hxy e => hxy (by have := congrArg (swN a b) e; rwa [swN_swN, swN_swN] at this)
  · show x ∈ mineR (swL a b ro) w ↔ _
    rw [mine_mem, swL_len, List.mem_map]
    constructor
    · rintro ⟨h1, h2⟩
      rw [swL_get h1] at h2
      exact ⟨swN a b x, mine_mem.2 ⟨(swN_lt ha hb).2 h1, h2⟩, swN_swN a b x⟩
    · rintro ⟨y, hy, rfl⟩
      obtain ⟨h1, h2⟩ := mine_mem.1 hy
      have h3 := (swN_lt (x := y) ha hb).2 h1
      exact ⟨h3, by rw [swL_get h3, swN_swN]; exact h2⟩
theorem any_perm {α : Type} {f : α → Bool} {l m : List α} (h : l.Perm m) : l.any f = m.any f := by
  rw [Bool.eq_iff_iff, List.any_eq_true, List.any_eq_true]
  exact ⟨fun ⟨x, hx, hf⟩ => ⟨x, h.mem_iff.1 hx, hf⟩, fun ⟨x, hx, hf⟩ => ⟨x, h.mem_iff.2 hx, hf⟩⟩
theorem sumT_map (T : Tri) (day : Int) : sumT T day = ((T.map (·.2)).map fun q : Int × Int => if q.1 = day then q.2 else 0).sum := by
  unfold sumT
  rw [List.map_map]
  rfl
theorem trip_map (p : Pl) (mine : List Nat) : (trip p mine).map (·.2) = mine.flatMap fun d => minsD p (p.duties.getD d default) := by
  unfold trip
  rw [List.map_flatMap]
  congr 1
  funext d
  rw [List.map_map]
  exact (List.map_congr_left fun q _ => rfl).trans (List.map_id _)
theorem ov_of {p q : Pl} {x : Wk} {m n : List Nat} (hl : q.lim = p.lim) (h : ((trip q n).map (·.2)).Perm ((trip p m).map (·.2))) : ovB q x n = ovB p x m := by
  have hs : ∀ day, sumT (trip q n) day = sumT (trip p m) day := fun day => by
    rw [sumT_map, sumT_map]
    exact perm_sumI (h.map _)
  have hd : dayB q x (trip q n) = dayB p x (trip p m) := by
    funext day
    unfold dayB week7
    rw [hl]
    simp only [hs]
  unfold ovB
  rw [hd]
  have := h.map (·.1)
  rw [List.map_map, List.map_map] at this
  exact any_perm this
theorem violK_ren {a b : Nat} {p : Pl} {x : Wk} {ro : List Int} {w : Int} (h : ro.length = p.duties.length) (ha : a < p.duties.length) (hb : b < p.duties.length) : violK (renP a b p) x (mineR (swL a b ro) w) = violK p x (mineR ro w) := by
  have hp := mine_ren (w := w) (by omega : a < ro.length) (by omega : b < ro.length)
  have hlt : ∀ d ∈ mineR ro w, d < p.duties.length := fun d hd => by have := (mine_mem.1 hd).1; omega
  generalize mineR (swL a b ro) w = n at *
  generalize mineR ro w = m at *
  have hg : ∀ d ∈ m, (renP a b p).duties.getD (swN a b d) default = p.duties.getD d default := fun d hd => by
    show (swL a b p.duties).getD (swN a b d) default = _
    rw [swL_get ((swN_lt ha hb).2 (hlt d hd)), swN_swN]
  have h1 : unB (renP a b p) x n = unB p x m := by
    unfold unB
    rw [any_perm hp, List.any_map, Bool.eq_iff_iff, List.any_eq_true, List.any_eq_true]
    have key : ∀ d ∈ m, ((fun d => unD (renP a b p) x ((renP a b p).duties.getD d default)) ∘ swN a b) d = unD p x (p.duties.getD d default) := fun d hd => by
      simp only [Function.comp]
      rw [hg d hd]
      rfl
    exact ⟨fun ⟨d, hd, hf⟩ => ⟨d, hd, by rw [← key d hd]; exact hf⟩, fun ⟨d, hd, hf⟩ => ⟨d, hd, by rw [key d hd]; exact hf⟩⟩
  have h2 : restA (renP a b p) n = restA p m := by
    have hf : restA (renP a b p) n = false ↔ restA p m = false := by
      rw [restA_f, restA_f]
      have hsy : ∀ {d e : Nat}, restB (renP a b p) d e = false → restB (renP a b p) e d = false := fun {d e} hde => by
        unfold restB at *
        rw [restR_symm]
        exact hde
      rw [hp.pairwise_iff (fun {_ _} h => hsy h), List.pairwise_map]
      have key : ∀ d e, d ∈ m → e ∈ m → restB (renP a b p) (swN a b d) (swN a b e) = restB p d e := fun d e hd he => by
        unfold restB
        rw [hg d hd, hg e he]
        rfl
      constructor
      · exact fun hh => (List.Pairwise.and_mem.1 hh).imp fun {d e} ⟨hd, he, hde⟩ => by rw [← key d e hd he]; exact hde
      · exact fun hh => (List.Pairwise.and_mem.1 hh).imp fun {d e} ⟨hd, he, hde⟩ => by rw [key d e hd he]; exact hde
    cases h3 : restA p m with
    | false => exact hf.2 h3
    | true =>
      cases h4 : restA (renP a b p) n with
      | false => rw [hf.1 h4] at h3; cases h3
      | true => rfl
  have h3 : ovB (renP a b p) x n = ovB p x m := by
    refine ov_of rfl ?_
    rw [trip_map, trip_map]
    refine (hp.flatMap_right _).trans ?_
    rw [List.flatMap_map]
    have : m.flatMap (fun d => minsD (renP a b p) ((renP a b p).duties.getD (swN a b d) default)) = m.flatMap fun d => minsD p (p.duties.getD d default) := by
      unfold List.flatMap
      congr 1
      exact List.map_congr_left fun d hd => by rw [hg d hd]; rfl
    rw [this]
  unfold violK
  rw [h1, h2, h3]
theorem violB_ren {a b : Nat} {p : Pl} {ro : List Int} (h : ro.length = p.duties.length) (ha : a < p.duties.length) (hb : b < p.duties.length) : violB (renP a b p) (swL a b ro) = violB p ro := by
  rw [violB_K, violB_K]
  show (List.range p.workers.length).any _ = _
  congr 1
  funext w
  exact violK_ren h ha hb
theorem swL_rep {α : Type} [Inhabited α] {a b n : Nat} {x : α} (ha : a < n) (hb : b < n) : swL a b (List.replicate n x) = List.replicate n x := by
  refine List.ext_getElem (by rw [swL_len]) fun i h1 h2 => ?_
  rw [List.length_replicate] at h2
  have h3 := (swN_lt (x := i) ha hb).2 h2
  simp only [swL, List.getElem_map, List.getElem_range, List.getElem_replicate, List.getD, List.getElem?_replicate, if_pos h3, Option.getD_some]
theorem denL_len : ∀ {cl : List Lt} {ro r : List Int}, denL cl ro = some r → r.length = ro.length
  | [], ro, r, h => by
    rw [denL] at h
    cases h
    rfl
  | l :: cl, ro, r, h => by
    rw [denL] at h
    split at h
    · rw [denL_len h, List.length_set]
    · cases h
theorem denS_ren {a b : Nat} {p : Pl} {s : Sg} (ha : a < p.duties.length) (hb : b < p.duties.length) (h : s.cl.all (properB p) = true) : denS (renP a b p) (renS a b s) = (denS p s).map (swL a b) := by
  have hl : ∀ l ∈ s.cl, 0 ≤ l.du ∧ l.du < (List.replicate p.duties.length (-1 : Int)).length := fun l hl => by
    have := properB_iff.1 (List.all_eq_true.1 h l hl)
    rw [List.length_replicate]
    exact ⟨this.1, this.2.1⟩
  have e : (renP a b p).duties.length = p.duties.length := swL_len _ _ _
  have e2 : (renS a b s).cl.length = s.cl.length := List.length_map _
  have e3 : (renS a b s).frm = s.frm := rfl
  unfold denS
  rw [e, e2, e3]
  split
  · have := denL_ren (a := a) (b := b) (by rw [List.length_replicate]; exact ha) (by rw [List.length_replicate]; exact hb) hl
    rw [swL_rep ha hb] at this
    exact this
  · rfl
theorem denS_len {p : Pl} {s : Sg} {r : List Int} (h : denS p s = some r) : r.length = p.duties.length := by
  unfold denS at h
  split at h
  · rw [denL_len h, List.length_replicate]
  · cases h
theorem badS_ren {a b : Nat} {p : Pl} {s : Sg} (ha : a < p.duties.length) (hb : b < p.duties.length) (h : s.cl.all (properB p) = true) : badS (renP a b p) (renS a b s) = badS p s := by
  unfold badS
  rw [denS_ren ha hb h]
  cases e : denS p s with
  | none => rfl
  | some r => exact violB_ren (denS_len e) ha hb
theorem costS_ren {a b : Nat} {p : Pl} {s : Sg} {bd : Int} (ha : a < p.duties.length) (hb : b < p.duties.length) (h : s.cl.all (properB p) = true) : costS (renP a b p) bd (renS a b s) = costS p bd s := by
  unfold costS
  rw [denS_ren ha hb h]
  cases e : denS p s with
  | none => rfl
  | some r =>
    show decide (bd ≤ fullP (renP a b p) (swL a b r) (renP a b p).duties) = decide (bd ≤ fullP p r p.duties)
    rw [full_ren (denS_len e) ha hb]
theorem all_ren {a b : Nat} {p : Pl} {cl : List Lt} (ha : a < p.duties.length) (hb : b < p.duties.length) : (cl.map (renL a b)).all (properB (renP a b p)) = cl.all (properB p) := by
  rw [List.all_map]
  congr 1
  funext l
  exact proper_ren ha hb
theorem foll_ren {a b : Nat} {p : Pl} {bd : Int} {log : List Sg} {k : Nat} (ha : a < p.duties.length) (hb : b < p.duties.length) : follB (renP a b p) bd (log.map (renS a b)) k = follB p bd log k := by
  unfold follB
  rw [getD_ren]
  have e : (renS a b (log.getD k default)).cl.all (properB (renP a b p)) = (log.getD k default).cl.all (properB p) := all_ren ha hb
  rw [e]
  cases h : (log.getD k default).cl.all (properB p) with
  | false => rfl
  | true =>
    unfold ruleB
    rw [some_ren, one_ren, badS_ren ha hb h, costS_ren ha hb h, unitB_ren]
    rfl
theorem step_ren {a b : Nat} {p : Pl} {bd : Int} {log : List Sg} {k : Int} (ha : a < p.duties.length) (hb : b < p.duties.length) : stepB (renP a b p) bd (log.map (renS a b)) k = stepB p bd log k := by
  unfold stepB
  rw [valid_ren ha hb, foll_ren ha hb, List.length_map]
theorem check_ren {a b : Nat} {p : Pl} {bd : Int} {log : List Sg} (ha : a < p.duties.length) (hb : b < p.duties.length) : checkB (renP a b p) bd (log.map (renS a b)) = checkB p bd log := by
  unfold checkB
  rw [valid_ren ha hb, List.length_map, getD_ren]
  have e : (renS a b (log.getD (log.length - 1) default)).cl.length = (log.getD (log.length - 1) default).cl.length := List.length_map _
  have e2 : follB (renP a b p) bd (log.map (renS a b)) = follB p bd log := funext fun k => foll_ren ha hb
  rw [e, e2]
end Go.Wage
