/-
  Plain part of layer 12: appending, filtering, exchanging facts.
  Conditions: those of each theorem.
-/
import Derived.Test.YtkdbijfkcjcjmaaF12A
namespace Go.Wage
theorem lastH_append {p : Fa → Bool} : ∀ {as bs : List Fa} {i : Nat}, lastH p (as ++ bs) i = match lastH p bs (i + as.length) with | some x => some x | none => lastH p as i
  | [], bs, i => by
    simp only [List.nil_append, List.length_nil, Nat.add_zero]
    cases lastH p bs i <;> rfl
  | a :: as, bs, i => by
    simp only [List.cons_append, lastH, lastH_append (as := as), List.length_cons]
    rw [show i + 1 + as.length = i + (as.length + 1) by omega]
    cases lastH p bs (i + (as.length + 1)) <;> rfl
theorem lastH_snoc {p : Fa → Bool} {fs : List Fa} {f : Fa} {i : Nat} : lastH p (fs ++ [f]) i = if p f then some (f, i + fs.length) else lastH p fs i := by
  rw [lastH_append]
  simp only [lastH]
  by_cases h : p f <;> simp [h]
theorem lastH_get {p : Fa → Bool} : ∀ {fs : List Fa} {s i : Nat} {f : Fa}, lastH p fs s = some (f, i) → s ≤ i ∧ fs[i - s]? = some f ∧ p f = true
  | [], _, _, _, h => by cases h
  | g :: fs, s, i, f, h => by
    rw [lastH] at h
    cases h1 : lastH p fs (s + 1) with
    | some x =>
      rw [h1] at h
      simp only [Option.some.injEq] at h
      subst h
      obtain ⟨g1, g2, g3⟩ := lastH_get h1
      exact ⟨by omega, by rw [show i - s = (i - (s + 1)) + 1 by omega]; simpa using g2, g3⟩
    | none =>
      rw [h1] at h
      simp only at h
      by_cases hp : p g = true
      · rw [if_pos hp] at h
        simp only [Option.some.injEq, Prod.mk.injEq] at h
        obtain ⟨rfl, rfl⟩ := h
        exact ⟨Nat.le_refl _, by simp, hp⟩
      · rw [if_neg hp] at h; cases h
/-- the fact that counts, without its number -/
def lastF (p : Fa → Bool) (fs : List Fa) : Option Fa := (lastH p fs 0).map (·.1)
theorem lastH_map {p : Fa → Bool} : ∀ {fs : List Fa} {i j : Nat}, (lastH p fs i).map (·.1) = (lastH p fs j).map (·.1)
  | [], _, _ => rfl
  | f :: fs, i, j => by
    have ih := lastH_map (p := p) (fs := fs) (i := i + 1) (j := j + 1)
    simp only [lastH]
    cases h1 : lastH p fs (i + 1) with
    | none =>
      cases h2 : lastH p fs (j + 1) with
      | none => by_cases h : p f <;> simp [h]
      | some y => rw [h1, h2] at ih; cases ih
    | some x =>
      cases h2 : lastH p fs (j + 1) with
      | none => rw [h1, h2] at ih; cases ih
      | some y => rw [h1, h2] at ih; simpa using ih
theorem lastF_append {p : Fa → Bool} {as bs : List Fa} : lastF p (as ++ bs) = (lastF p bs).or (lastF p as) := by
  unfold lastF
  rw [lastH_append, lastH_map (fs := bs) (i := 0) (j := 0 + as.length)]
  cases lastH p bs (0 + as.length) <;> simp
theorem lastF_nil {p : Fa → Bool} : lastF p [] = none := rfl
theorem lastF_one {p : Fa → Bool} {f : Fa} : lastF p [f] = if p f then some f else none := by
  simp only [lastF, lastH]
  by_cases h : p f <;> simp [h]
theorem lastF_cons {p : Fa → Bool} {f : Fa} {fs : List Fa} : lastF p (f :: fs) = (lastF p fs).or (if p f then some f else none) := by
  have := lastF_append (p := p) (as := [f]) (bs := fs)
  rw [lastF_one] at this
  exact this
theorem lastF_filter {p q : Fa → Bool} (h : ∀ f, p f = true → q f = true) : ∀ fs : List Fa, lastF p (fs.filter q) = lastF p fs
  | [] => rfl
  | f :: fs => by
    have ih := lastF_filter h fs
    rw [List.filter_cons]
    by_cases hq : q f = true
    · rw [if_pos hq, lastF_cons, lastF_cons, ih]
    · rw [if_neg hq, lastF_cons, ih]
      have : p f ≠ true := fun e => hq (h f e)
      simp [this]
/-- the value and whether there is one -/
def valF : Option Fa → Int × Bool
  | some f => if f.gone then (0, false) else (f.value, true)
  | none => (0, false)
theorem look_valF (fs : List Fa) (p n : ByteArray) (d t : Int) : ((lookR fs p n d t).1, (lookR fs p n d t).2.2) = valF (lastF (hitB p n d t) fs) := by
  unfold lookR lastF
  cases h : lastH (hitB p n d t) fs 0 with
  | none => rfl
  | some x =>
    obtain ⟨f, i⟩ := x
    simp only [resR, Option.map_some, valF]
    by_cases hg : f.gone <;> simp [hg]
/-! validity -/
theorem getD_append_l {as : List Fa} {f : Fa} {i : Nat} (h : i < as.length) : (as ++ [f]).getD i default = as.getD i default := by
  simp [List.getD, List.getElem?_append_left h]
theorem valid_snoc {fs : List Fa} {f : Fa} : validF (fs ++ [f]) = true ↔ validF fs = true ∧ fs.length < 400 ∧ wellB f = true ∧ (0 < fs.length → (fs.getD (fs.length - 1) default).known ≤ f.known) := by
  have hlast : okF (fs ++ [f]) fs.length = true ↔ wellB f = true ∧ (0 < fs.length → (fs.getD (fs.length - 1) default).known ≤ f.known) := by
    unfold okF
    have e1 : (fs ++ [f]).getD fs.length default = f := by simp [List.getD]
    rw [e1]
    rcases Nat.eq_zero_or_pos fs.length with h0 | h0
    · simp [h0]
    · rw [getD_append_l (by omega)]
      simp only [Bool.and_eq_true, Bool.or_eq_true, decide_eq_true_eq]
      constructor
      · rintro ⟨h1, h2⟩; exact ⟨h1, fun _ => h2.resolve_left (by omega)⟩
      · rintro ⟨h1, h2⟩; exact ⟨h1, .inr (h2 h0)⟩
  have hpre : (List.range fs.length).all (okF (fs ++ [f])) = (List.range fs.length).all (okF fs) := by
    rw [Bool.eq_iff_iff, List.all_eq_true, List.all_eq_true]
    refine forall_congr' fun i => ?_
    refine ⟨fun h hi => ?_, fun h hi => ?_⟩
    · have := h hi
      have hlt := List.mem_range.1 hi
      unfold okF at this ⊢
      rw [getD_append_l hlt, getD_append_l (by omega)] at this
      exact this
    · have := h hi
      have hlt := List.mem_range.1 hi
      unfold okF at this ⊢
      rw [getD_append_l hlt, getD_append_l (by omega)]
      exact this
  unfold validF
  simp only [List.length_append, List.length_singleton, List.range_succ, List.all_append, List.all_cons, List.all_nil, Bool.and_true, Bool.and_eq_true, decide_eq_true_eq, hpre, hlast]
  constructor
  · rintro ⟨h1, h2, h3⟩; exact ⟨⟨by omega, h2⟩, by omega, h3⟩
  · rintro ⟨⟨h1, h2⟩, h3, h4⟩; exact ⟨by omega, h2, h4⟩
theorem last_pw {fs : List Fa} (h : fs.Pairwise fun a b => a.known ≤ b.known) : ∀ g ∈ fs, g.known ≤ (fs.getD (fs.length - 1) default).known := by
  intro g hg
  obtain ⟨i, hi, rfl⟩ := List.mem_iff_getElem.1 hg
  rw [List.getD, List.getElem?_eq_getElem (by omega), Option.getD_some]
  by_cases e : i = fs.length - 1
  · subst e; exact Int.le_refl _
  · exact List.pairwise_iff_getElem.1 h i (fs.length - 1) hi (by omega) (by omega)
theorem snoc_cases {α : Type} {P : List α → Prop} (h0 : P []) (h1 : ∀ l a, P l → P (l ++ [a])) (l : List α) : P l := by
  have : ∀ n (l : List α), l.length = n → P l := by
    intro n
    induction n with
    | zero => intro l hl; rw [List.eq_nil_of_length_eq_zero hl]; exact h0
    | succ n ih =>
      intro l hl
      have hne : l ≠ [] := by intro e; rw [e] at hl; cases hl
      rw [← List.dropLast_concat_getLast hne]
      exact h1 _ _ (ih _ (by simp [hl]))
  exact this _ l rfl
theorem valid_iff (fs : List Fa) : validF fs = true ↔ fs.length ≤ 400 ∧ (∀ f ∈ fs, wellB f = true) ∧ fs.Pairwise (fun a b => a.known ≤ b.known) := by
  refine snoc_cases (P := fun fs => validF fs = true ↔ fs.length ≤ 400 ∧ (∀ f ∈ fs, wellB f = true) ∧ fs.Pairwise (fun a b => a.known ≤ b.known)) ?_ (fun fs f ih => ?_) fs
  · simp [validF]
  · rw [valid_snoc, ih, List.pairwise_append]
    constructor
    · rintro ⟨⟨h1, h2, h3⟩, h4, h5, h6⟩
      refine ⟨by simp; omega, fun g hg => ?_, h3, by simp, fun a ha b hb => ?_⟩
      · rcases List.mem_append.1 hg with hg | hg
        · exact h2 g hg
        · simp at hg; rw [hg]; exact h5
      · simp at hb; subst hb
        have hpos : 0 < fs.length := List.length_pos_of_mem ha
        exact Int.le_trans (last_pw h3 a ha) (h6 hpos)
    · rintro ⟨h1, h2, h3, _, h5⟩
      simp at h1
      refine ⟨⟨by omega, fun g hg => h2 g (by simp [hg]), h3⟩, by omega, h2 f (by simp), fun h => h5 _ ?_ f (by simp)⟩
      rw [List.getD, List.getElem?_eq_getElem (by omega), Option.getD_some]
      exact List.getElem_mem _
theorem valid_sub {fs gs : List Fa} (h : validF fs = true) (hs : gs.Sublist fs) : validF gs = true := by
  rw [valid_iff] at h ⊢
  obtain ⟨h1, h2, h3⟩ := h
  exact ⟨Nat.le_trans hs.length_le h1, fun f hf => h2 f (hs.subset hf), h3.sublist hs⟩
theorem pair_fst {a b : Int × Int × Bool} {o : Option Fa} (h1 : (a.1, a.2.2) = valF o) (h2 : (b.1, b.2.2) = valF o) : a.1 = b.1 ∧ a.2.2 = b.2.2 := by
  have := h1.trans h2.symm
  simpa using this
/-! recording -/
theorem rec_iff (fs : List Fa) (f : Fa) : (recR fs f = (fs ++ [f], 0) ∧ validF (fs ++ [f]) = true) ∨ ((recR fs f).2 ≠ 0 ∧ (recR fs f).1 = [] ∧ validF (fs ++ [f]) = false) := by
  have h := valid_snoc (fs := fs) (f := f)
  unfold recR
  by_cases hv : validF fs = true <;> by_cases hw : wellB f = true
  · simp only [hv, hw, Bool.and_self, if_true]
    by_cases hl : 400 ≤ fs.length
    · rw [if_pos hl]
      refine .inr ⟨by simp, rfl, ?_⟩
      rw [← Bool.not_eq_true, h]; intro h; omega
    · rw [if_neg hl]
      by_cases hk : 0 < fs.length ∧ f.known < (fs.getD (fs.length - 1) default).known
      · rw [if_pos (by simpa using hk)]
        refine .inr ⟨by simp, rfl, ?_⟩
        rw [← Bool.not_eq_true, h]; intro h; have := h.2.2.2 hk.1; omega
      · rw [if_neg (by simpa using hk)]
        exact .inl ⟨rfl, h.2 ⟨hv, by omega, hw, fun h0 => by omega⟩⟩
  all_goals
    refine .inr ⟨by simp [hv, hw], by simp [hv, hw], ?_⟩
    rw [← Bool.not_eq_true, h]; simp [hv, hw]
theorem rec_ok {fs : List Fa} {f : Fa} (h : (recR fs f).2 = 0) : recR fs f = (fs ++ [f], 0) ∧ validF (fs ++ [f]) = true := (rec_iff fs f).resolve_right fun h' => h'.1 h
theorem val_snoc {fs : List Fa} {f : Fa} (h : validF (fs ++ [f]) = true) (p n : ByteArray) (d t : Int) : valR (fs ++ [f]) p n d t = if hitB p n d t f then (if f.gone then (0, -1, false) else (f.value, (fs.length : Int), true)) else valR fs p n d t := by
  have hv := (valid_snoc.1 h).1
  unfold valR
  rw [if_pos h, if_pos hv, lookR, lookR, lastH_snoc]
  by_cases hb : hitB p n d t f = true
  · simp [hb, resR]
  · simp [hb]
theorem val_pair {fs : List Fa} (h : validF fs = true) (p n : ByteArray) (d t : Int) : ((valR fs p n d t).1, (valR fs p n d t).2.2) = valF (lastF (hitB p n d t) fs) := by
  unfold valR
  rw [if_pos h, look_valF]
theorem same_filter {l : List Fa} (hv : validF l = true) {q : Fa → Bool} {p n : ByteArray} {d t : Int} (hq : ∀ f, hitB p n d t f = true → q f = true) :
    (decide ((valR l p n d t).1 = (valR (l.filter q) p n d t).1) && ((valR l p n d t).2.2 == (valR (l.filter q) p n d t).2.2)) = true := by
  have h1 := val_pair hv p n d t
  have h2 := val_pair (valid_sub hv (List.filter_sublist (p := q))) p n d t
  rw [lastF_filter hq] at h2
  obtain ⟨a, b⟩ := pair_fst h1 h2
  simp [a, b]
/-! recording what becomes known later -/
def pastR (known : Int) : List Fa → List Fa → List Fa
  | t, [] => t
  | t, f :: fs => pastR known (if f.known ≤ known then t else if (recR t f).2 = 0 then (recR t f).1 else t) fs
theorem past_val (known k : Int) (hk : k ≤ known) (p n : ByteArray) (d : Int) : ∀ (l t : List Fa), valR (pastR known t l) p n d k = valR t p n d k
  | [], _ => rfl
  | f :: l, t => by
    rw [pastR, past_val known k hk p n d l]
    by_cases h : f.known ≤ known
    · rw [if_pos h]
    · rw [if_neg h]
      by_cases h2 : (recR t f).2 = 0
      · rw [if_pos h2]
        obtain ⟨e, hv⟩ := rec_ok h2
        rw [e, val_snoc hv, if_neg]
        unfold hitB
        simp only [Bool.and_eq_true, decide_eq_true_eq]
        omega
      · rw [if_neg h2]
/-! building -/
def bldR : List Fa → Bool → List Fa → List Fa × Bool
  | t, ok, [] => (t, ok)
  | t, ok, f :: fs => if ok then bldR (recR t f).1 (decide ((recR t f).2 = 0)) fs else (t, ok)
theorem bld_spec : ∀ (l t : List Fa), validF t = true → (bldR t true l).2 = validF (t ++ l) ∧ ((bldR t true l).2 = true → (bldR t true l).1 = t ++ l)
  | [], t, h => by simp [bldR, h]
  | f :: l, t, h => by
    rw [bldR, if_pos rfl]
    rcases rec_iff t f with ⟨e, hv⟩ | ⟨e1, e2, hv⟩
    · rw [e]
      have := bld_spec l (t ++ [f]) hv
      simpa using this
    · rw [decide_eq_false e1]
      have e3 : (bldR (recR t f).1 false l).2 = false := by cases l <;> simp [bldR]
      rw [e3]
      refine ⟨?_, fun h => by cases h⟩
      symm
      rw [← Bool.not_eq_true]
      intro hc
      have : validF (t ++ [f]) = true := valid_sub hc (by simp)
      rw [hv] at this; cases this
/-! correcting -/
def goneF (f : Fa) : Fa := ⟨f.person, f.name, f.frm, f.to_, f.known, 0, true⟩
theorem corr_spec {fs : List Fa} {f : Fa} (h1 : (recR fs f).2 = 0) (h2 : (recR (recR fs f).1 f).2 = 0) (h3 : (recR (recR (recR fs f).1 f).1 (goneF f)).2 = 0) (h4 : (recR (recR (recR (recR fs f).1 f).1 (goneF f)).1 f).2 = 0) :
    (valR (recR (recR (recR fs f).1 f).1 (goneF f)).1 f.person f.name f.frm f.known).2.2 = false ∧ ∀ p n d t,
      ((valR (recR fs f).1 p n d t).1 = (valR (recR (recR fs f).1 f).1 p n d t).1 ∧ (valR (recR fs f).1 p n d t).2.2 = (valR (recR (recR fs f).1 f).1 p n d t).2.2) ∧
      ((valR (recR fs f).1 p n d t).1 = (valR (recR (recR (recR (recR fs f).1 f).1 (goneF f)).1 f).1 p n d t).1 ∧ (valR (recR fs f).1 p n d t).2.2 = (valR (recR (recR (recR (recR fs f).1 f).1 (goneF f)).1 f).1 p n d t).2.2) := by
  obtain ⟨e1, v1⟩ := rec_ok h1
  rw [e1] at h2 h3 h4 ⊢
  simp only at h2 h3 h4 ⊢
  obtain ⟨e2, v2⟩ := rec_ok h2
  rw [e2] at h3 h4 ⊢
  simp only at h3 h4 ⊢
  obtain ⟨e3, v3⟩ := rec_ok h3
  rw [e3] at h4 ⊢
  simp only at h4 ⊢
  obtain ⟨e4, v4⟩ := rec_ok h4
  rw [e4]
  simp only
  have hg : ∀ p n d t, hitB p n d t (goneF f) = hitB p n d t f := fun _ _ _ _ => rfl
  have hw : wellB f = true := ((valid_snoc.1 v1).2.2).1
  have hself : hitB f.person f.name f.frm f.known f = true := by
    unfold wellB at hw
    simp only [Bool.and_eq_true, decide_eq_true_eq] at hw
    unfold hitB
    simp
    omega
  refine ⟨?_, fun p n d t => ?_⟩
  · rw [val_snoc v3, hg, if_pos hself, if_pos (by rfl)]
  · rw [val_snoc v4, val_snoc v3, val_snoc v2, val_snoc v1, hg]
    by_cases hb : hitB p n d t f = true
    · simp only [hb, if_true]
      by_cases hh : f.gone = true <;> simp [hh]
    · simp [hb]
/-! exchanging -/
theorem swap_ok {as bs : List Fa} {a b : Fa} {p : Fa → Bool} (hv : validF (as ++ [a, b] ++ bs) = true) (hk : a.known = b.known) (hn : ¬ (p a = true ∧ p b = true)) :
    validF (as ++ [b, a] ++ bs) = true ∧ lastF p (as ++ [b, a] ++ bs) = lastF p (as ++ [a, b] ++ bs) := by
  constructor
  · rw [valid_iff] at hv ⊢
    obtain ⟨h1, h2, h3⟩ := hv
    refine ⟨by simpa using h1, fun f hf => h2 f ?_, ?_⟩
    · simp at hf ⊢; rcases hf with h | h | h | h <;> simp [h]
    · simp only [List.pairwise_append, List.pairwise_cons, List.mem_append, List.mem_cons] at h3 ⊢
      obtain ⟨⟨g1, g2, g3⟩, g4, g5⟩ := h3
      refine ⟨⟨g1, ⟨fun c hc => ?_, by simp, List.Pairwise.nil⟩, fun x hx y hy => ?_⟩, g4, fun x hx y hy => ?_⟩
      · simp at hc; subst hc; omega
      · rcases hy with rfl | rfl | h
        · exact g3 x hx _ (.inr (.inl rfl))
        · exact g3 x hx _ (.inl rfl)
        · cases h
      · refine g5 x ?_ y hy
        rcases hx with h | rfl | rfl | h
        · exact .inl h
        · exact .inr (.inr (.inl rfl))
        · exact .inr (.inl rfl)
        · cases h
  · simp only [lastF_append, lastF_cons, lastF_nil]
    by_cases ha : p a = true <;> by_cases hb : p b = true
    · exact absurd ⟨ha, hb⟩ hn
    all_goals simp [ha, hb]
theorem swap_at {fs : List Fa} {i : Nat} (hi : i + 1 < fs.length) {p : Fa → Bool} (hv : validF fs = true) (hk : (fs.getD i default).known = (fs.getD (i + 1) default).known) (hn : ¬ (p (fs.getD i default) = true ∧ p (fs.getD (i + 1) default) = true)) :
    validF ((fs.set i (fs.getD (i + 1) default)).set (i + 1) (fs.getD i default)) = true ∧ lastF p ((fs.set i (fs.getD (i + 1) default)).set (i + 1) (fs.getD i default)) = lastF p fs := by
  have e1 : fs.getD i default = fs[i] := by simp [List.getD, Nat.lt_of_succ_lt hi]
  have e2 : fs.getD (i + 1) default = fs[i + 1] := by simp [List.getD, hi]
  rw [e1, e2] at hk hn ⊢
  have h1 : fs = fs.take i ++ [fs[i], fs[i + 1]] ++ fs.drop (i + 2) := by
    conv => lhs; rw [← List.take_append_drop i fs, List.drop_eq_getElem_cons (by omega), List.drop_eq_getElem_cons (by omega)]
    simp
  have h2 : (fs.set i fs[i + 1]).set (i + 1) fs[i] = fs.take i ++ [fs[i + 1], fs[i]] ++ fs.drop (i + 2) := by
    apply List.ext_getElem?
    intro j
    have hl : (fs.take i).length = i := by rw [List.length_take]; omega
    rw [List.getElem?_set, List.getElem?_set, List.append_assoc, List.getElem?_append, hl]
    by_cases j1 : j < i
    · rw [if_pos j1, if_neg (by omega), if_neg (by omega), List.getElem?_take, if_pos j1]
    · rw [if_neg j1]
      by_cases j2 : j = i
      · subst j2
        rw [if_neg (by omega), if_pos rfl, if_pos (by omega)]
        simp
      · by_cases j3 : j = i + 1
        · subst j3
          rw [if_pos rfl, if_pos (by rw [List.length_set]; omega)]
          simp
        · rw [if_neg (by omega), if_neg (by omega), show j - i = (j - i - 2) + 2 by omega]
          simp only [List.cons_append, List.nil_append, List.getElem?_cons_succ, List.getElem?_drop]
          congr 1; omega
  rw [h2]
  have hv' := hv
  rw [h1] at hv'
  have := swap_ok (p := p) hv' hk hn
  refine ⟨this.1, this.2.trans ?_⟩
  rw [← h1]
theorem order_spec {fs : List Fa} {i : Nat} (hi : i + 1 < fs.length) {p n : ByteArray} {d t : Int} (hv : validF fs = true) (hk : (fs.getD i default).known = (fs.getD (i + 1) default).known)
    (hn : (¬ (fs.getD i default).person = (fs.getD (i + 1) default).person ∨ ¬ (fs.getD i default).name = (fs.getD (i + 1) default).name) ∨ (fs.getD i default).to_ ≤ (fs.getD (i + 1) default).frm ∨ (fs.getD (i + 1) default).to_ ≤ (fs.getD i default).frm) :
    validF ((fs.set i (fs.getD (i + 1) default)).set (i + 1) (fs.getD i default)) = true ∧
      (decide ((valR fs p n d t).1 = (valR ((fs.set i (fs.getD (i + 1) default)).set (i + 1) (fs.getD i default)) p n d t).1) && ((valR fs p n d t).2.2 == (valR ((fs.set i (fs.getD (i + 1) default)).set (i + 1) (fs.getD i default)) p n d t).2.2)) = true := by
  obtain ⟨g1, g2⟩ := swap_at hi (p := hitB p n d t) hv hk (by
    rintro ⟨a, b⟩
    unfold hitB at a b
    simp only [Bool.and_eq_true, decide_eq_true_eq] at a b
    rcases hn with (h | h) | h | h
    · exact h (a.2.trans b.2.symm)
    · exact h (a.1.2.trans b.1.2.symm)
    · omega
    · omega)
  refine ⟨g1, ?_⟩
  have h1 := val_pair hv p n d t
  have h2 := val_pair g1 p n d t
  rw [g2] at h2
  obtain ⟨a, b⟩ := pair_fst h1 h2
  simp [a, b]
end Go.Wage
