/-
  Plain: lists of spans, their normal form, the sweep over sorted edges.
  Conditions: none beyond the premises of each theorem.
-/
import Derived.Below
namespace Go.Wage
abbrev Sp := Int × Int
def prp (s : Sp) : Bool := decide (-1152921504606846976 ≤ s.1) && decide (s.2 ≤ 1152921504606846976) && decide (s.1 < s.2)
def inS (l : List Sp) (x : Int) : Prop := ∃ s ∈ l, s.1 ≤ x ∧ x < s.2
/-- proper spans with gaps between, all above lb -/
def VF (lb : Int) : List Sp → Prop
  | [] => True
  | s :: l => lb < s.1 ∧ s.1 < s.2 ∧ VF s.2 l
theorem VF.weak {lb lb' : Int} (h : lb' ≤ lb) : ∀ {l : List Sp}, VF lb l → VF lb' l
  | [], _ => trivial
  | _ :: _, ⟨h1, h2, h3⟩ => ⟨by omega, h2, h3⟩
theorem VF.lt {lb : Int} : ∀ {l : List Sp} {x : Int}, VF lb l → inS l x → lb < x
  | [], x, _, ⟨s, hs, _⟩ => by simp at hs
  | t :: l, x, ⟨h1, h2, h3⟩, ⟨s, hs, hx, _⟩ => by
    rcases List.mem_cons.1 hs with rfl | hs
    · omega
    · have := VF.lt h3 ⟨s, hs, hx, ‹_›⟩; omega
theorem inS_cons {s : Sp} {l : List Sp} {x : Int} : inS (s :: l) x ↔ (s.1 ≤ x ∧ x < s.2) ∨ inS l x := by
  constructor
  · rintro ⟨t, ht, h⟩
    rcases List.mem_cons.1 ht with rfl | ht
    · exact .inl h
    · exact .inr ⟨t, ht, h⟩
  · rintro (h | ⟨t, ht, h⟩)
    · exact ⟨s, by simp, h⟩
    · exact ⟨t, by simp [ht], h⟩
theorem inS_nil {x : Int} : ¬ inS [] x := fun ⟨s, hs, _⟩ => by simp at hs
/-- a normal form is told by its members -/
theorem VF.uniq : ∀ {l l' : List Sp} {lb lb' : Int}, VF lb l → VF lb' l' → (∀ x, inS l x ↔ inS l' x) → l = l'
  | [], [], _, _, _, _, _ => rfl
  | [], s :: l', _, _, _, ⟨_, h2, _⟩, h => absurd ((h s.1).2 (inS_cons.2 (.inl ⟨by omega, h2⟩))) inS_nil
  | s :: l, [], _, _, ⟨_, h2, _⟩, _, h => absurd ((h s.1).1 (inS_cons.2 (.inl ⟨by omega, h2⟩))) inS_nil
  | s :: l, t :: l', _, _, ⟨h1, h2, h3⟩, ⟨k1, k2, k3⟩, h => by
    have e1 : t.1 ≤ s.1 := by
      rcases inS_cons.1 ((h s.1).1 (inS_cons.2 (.inl ⟨by omega, h2⟩))) with h' | h'
      · exact h'.1
      · have := k3.lt h'; omega
    have e2 : s.1 ≤ t.1 := by
      rcases inS_cons.1 ((h t.1).2 (inS_cons.2 (.inl ⟨by omega, k2⟩))) with h' | h'
      · exact h'.1
      · have := h3.lt h'; omega
    have e3 : ¬ s.2 < t.2 := fun hlt => by
      rcases inS_cons.1 ((h s.2).2 (inS_cons.2 (.inl ⟨by omega, hlt⟩))) with h' | h'
      · omega
      · have := h3.lt h'; omega
    have e4 : ¬ t.2 < s.2 := fun hlt => by
      rcases inS_cons.1 ((h t.2).1 (inS_cons.2 (.inl ⟨by omega, hlt⟩))) with h' | h'
      · omega
      · have := k3.lt h'; omega
    have est : s = t := Prod.ext (by omega) (by omega)
    subst est
    rw [VF.uniq h3 k3 fun x => ?_]
    constructor
    · intro hx
      have := h3.lt hx
      rcases inS_cons.1 ((h x).1 (inS_cons.2 (.inr hx))) with h' | h'
      · omega
      · exact h'
    · intro hx
      have := k3.lt hx
      rcases inS_cons.1 ((h x).2 (inS_cons.2 (.inr hx))) with h' | h'
      · omega
      · exact h'
/-! the normal form by insertion -/
def ins (a b : Int) : List Sp → List Sp
  | [] => [(a, b)]
  | s :: l => if b < s.1 then (a, b) :: s :: l else if s.2 < a then s :: ins a b l else ins (min a s.1) (max b s.2) l
def nrm : List Sp → List Sp
  | [] => []
  | s :: l => if prp s = true then ins s.1 s.2 (nrm l) else nrm l
theorem ins_spec : ∀ {l : List Sp} {a b lb : Int}, a < b → lb < a → VF lb l → VF lb (ins a b l) ∧ ∀ x, inS (ins a b l) x ↔ (a ≤ x ∧ x < b) ∨ inS l x
  | [], a, b, lb, hab, hlb, _ => ⟨⟨hlb, hab, trivial⟩, fun x => by simp [ins, inS]⟩
  | s :: l, a, b, lb, hab, hlb, ⟨h1, h2, h3⟩ => by
    unfold ins
    by_cases c1 : b < s.1
    · rw [if_pos c1]
      exact ⟨⟨hlb, hab, c1, h2, h3⟩, fun x => inS_cons⟩
    · rw [if_neg c1]
      by_cases c2 : s.2 < a
      · rw [if_pos c2]
        obtain ⟨i1, i2⟩ := ins_spec hab c2 h3
        refine ⟨⟨h1, h2, i1⟩, fun x => ?_⟩
        rw [inS_cons, i2, inS_cons]
        constructor
        · rintro (h | h | h)
          · exact .inr (.inl h)
          · exact .inl h
          · exact .inr (.inr h)
        · rintro (h | h | h)
          · exact .inr (.inl h)
          · exact .inl h
          · exact .inr (.inr h)
      · rw [if_neg c2]
        obtain ⟨i1, i2⟩ := ins_spec (l := l) (a := min a s.1) (b := max b s.2) (lb := lb) (by omega) (by omega) (h3.weak (by omega))
        refine ⟨i1, fun x => ?_⟩
        rw [i2, inS_cons]
        constructor
        · rintro (h | h)
          · by_cases q : a ≤ x ∧ x < b
            · exact .inl q
            · exact .inr (.inl (by omega))
          · exact .inr (.inr h)
        · rintro (h | h | h)
          · exact .inl (by omega)
          · exact .inl (by omega)
          · exact .inr h
theorem nrm_spec : ∀ (l : List Sp), VF (-1152921504606846977) (nrm l) ∧ ∀ x, inS (nrm l) x ↔ inS (l.filter prp) x
  | [] => ⟨trivial, fun x => Iff.rfl⟩
  | s :: l => by
    obtain ⟨i1, i2⟩ := nrm_spec l
    unfold nrm
    by_cases h : prp s = true
    · rw [if_pos h, List.filter_cons_of_pos h]
      simp only [prp, Bool.and_eq_true, decide_eq_true_eq] at h
      obtain ⟨j1, j2⟩ := ins_spec (l := nrm l) (a := s.1) (b := s.2) h.2 (by omega) i1
      exact ⟨j1, fun x => by rw [j2, inS_cons, i2]⟩
    · rw [if_neg h, List.filter_cons_of_neg h]
      exact ⟨i1, i2⟩
theorem nrm_uniq {l r : List Sp} {lb : Int} (hv : VF lb r) (h : ∀ x, inS r x ↔ inS (l.filter prp) x) : r = nrm l :=
  hv.uniq (nrm_spec l).1 fun x => by rw [h, (nrm_spec l).2]
/-! the sweep -/
structure Ed where
  at_ : Int
  d1 : Int
  d2 : Int
  deriving Inhabited, DecidableEq
def hd? : List Ed → Option Int
  | [] => none
  | e :: _ => some e.at_
theorem hd_cons (e : Ed) (es : List Ed) : hd? (e :: es) = some e.at_ := rfl
def sw (bel : Bool → Bool → Bool) (f s : Int) (op : Bool) (st : Int) : List Ed → List Sp
  | [] => []
  | e :: es => if hd? es = some e.at_ then sw bel (f + e.d1) (s + e.d2) op st es
    else if bel (decide (0 < f + e.d1)) (decide (0 < s + e.d2)) = op then sw bel (f + e.d1) (s + e.d2) op st es
    else (if op = true then [(st, e.at_)] else []) ++ sw bel (f + e.d1) (s + e.d2) (bel (decide (0 < f + e.d1)) (decide (0 < s + e.d2))) e.at_ es
def c1 (x : Int) : List Ed → Int
  | [] => 0
  | e :: es => (if e.at_ ≤ x then e.d1 else 0) + c1 x es
def c2 (x : Int) : List Ed → Int
  | [] => 0
  | e :: es => (if e.at_ ≤ x then e.d2 else 0) + c2 x es
def t1 : List Ed → Int
  | [] => 0
  | e :: es => e.d1 + t1 es
def t2 : List Ed → Int
  | [] => 0
  | e :: es => e.d2 + t2 es
/-- ascending, all from lb on -/
def Asc (lb : Int) : List Ed → Prop
  | [] => True
  | e :: es => lb ≤ e.at_ ∧ Asc e.at_ es
theorem c1_low : ∀ {es : List Ed} {lb x : Int}, Asc lb es → x < lb → c1 x es = 0 ∧ c2 x es = 0
  | [], _, _, _, _ => ⟨rfl, rfl⟩
  | e :: es, lb, x, ⟨h1, h2⟩, hx => by
    have := c1_low (x := x) h2 (by omega)
    simp only [c1, c2, this, if_neg (show ¬ e.at_ ≤ x by omega)]
    exact ⟨rfl, rfl⟩
/-- below the first edge: whether a span is open; from it on: the counts -/
def stat (bel : Bool → Bool → Bool) (f s : Int) (op : Bool) (st : Int) (es : List Ed) (x : Int) : Prop :=
  match hd? es with
  | none => False
  | some a => if x < a then op = true ∧ st ≤ x else bel (decide (0 < f + c1 x es)) (decide (0 < s + c2 x es)) = true
theorem sw_spec (bel : Bool → Bool → Bool) (hbel : bel false false = false) : ∀ (es : List Ed) (f s : Int) (op : Bool) (st lb : Int), Asc lb es → f + t1 es = 0 → s + t2 es = 0 → (es = [] → op = false) → (op = true → ∀ a, hd? es = some a → st < a) →
    (∀ x, inS (sw bel f s op st es) x ↔ stat bel f s op st es x) ∧ ∀ l0, (op = true → l0 < st) → (∀ a, hd? es = some a → l0 < a) → VF l0 (sw bel f s op st es)
  | [], f, s, op, st, lb, _, _, _, _, _ => ⟨fun x => by simp [sw, stat, hd?, inS], fun _ _ _ => trivial⟩
  | e :: es, f, s, op, st, lb, ⟨a1, a2⟩, ht1, ht2, hne, hst => by
    have hst := fun h => hst h e.at_ rfl
    simp only [t1, t2] at ht1 ht2
    unfold sw
    by_cases hsame : hd? es = some e.at_
    · rw [if_pos hsame]
      have hes : es ≠ [] := by rintro rfl; simp [hd?] at hsame
      obtain ⟨i1, i2⟩ := sw_spec bel hbel es (f + e.d1) (s + e.d2) op st e.at_ a2 (by omega) (by omega) (fun h => absurd h hes) (fun h a ha => by rw [hsame] at ha; cases ha; exact hst h)
      refine ⟨fun x => ?_, fun l0 h1 h2 => i2 l0 h1 (fun a ha => by rw [hsame] at ha; cases ha; exact h2 e.at_ rfl)⟩
      rw [i1]
      simp only [stat, hsame, hd_cons]
      by_cases hx : x < e.at_
      · rw [if_pos hx, if_pos hx]
      · rw [if_neg hx, if_neg hx]
        simp only [c1, c2, if_pos (show e.at_ ≤ x by omega)]
        rw [show f + e.d1 + c1 x es = f + (e.d1 + c1 x es) by omega, show s + e.d2 + c2 x es = s + (e.d2 + c2 x es) by omega]
    · rw [if_neg hsame]
      -- the next edge lies above
      have hup : ∀ a, hd? es = some a → e.at_ < a := fun a ha => by
        cases es with
        | nil => simp [hd?] at ha
        | cons e' es' =>
          simp only [hd?, Option.some.injEq] at ha hsame
          have := a2.1
          omega
      have hmid : ∀ x, e.at_ ≤ x → (∀ a, hd? es = some a → x < a) → c1 x es = 0 ∧ c2 x es = 0 := fun x _ h => by
        cases es with
        | nil => exact ⟨rfl, rfl⟩
        | cons e' es' => exact c1_low (lb := e'.at_) ⟨Int.le_refl _, a2.2⟩ (h _ rfl)
      generalize hin : bel (decide (0 < f + e.d1)) (decide (0 < s + e.d2)) = inn
      have hend : es = [] → inn = false := fun h => by
        subst h
        simp only [t1, t2] at ht1 ht2
        rw [← hin, show decide (0 < f + e.d1) = false by simp; omega, show decide (0 < s + e.d2) = false by simp; omega, hbel]
      -- what the rest says, at x from e.at_ on
      have hstat : ∀ (st' : Int) (x : Int), st' ≤ e.at_ → e.at_ ≤ x → (stat bel (f + e.d1) (s + e.d2) inn st' es x ↔ stat bel f s op st (e :: es) x) := fun st' x hst' hx => by
        simp only [stat, hd_cons, if_neg (show ¬ x < e.at_ by omega), c1, c2, if_pos hx]
        cases hh : hd? es with
        | none =>
          have hes : es = [] := by cases es with | nil => rfl | cons e' es' => simp [hd?] at hh
          have := hend hes
          subst hes
          simp only [c1, c2, Int.add_zero]
          rw [hin, this]
          simp
        | some a =>
          show (if x < a then inn = true ∧ st' ≤ x else _) ↔ _
          by_cases hxa : x < a
          · rw [if_pos hxa]
            obtain ⟨q1, q2⟩ := hmid x hx (fun a' ha' => by rw [hh] at ha'; cases ha'; exact hxa)
            rw [q1, q2, Int.add_zero, Int.add_zero, hin]
            constructor
            · exact fun h => h.1
            · exact fun h => ⟨h, by omega⟩
          · rw [if_neg hxa, show f + e.d1 + c1 x es = f + (e.d1 + c1 x es) by omega, show s + e.d2 + c2 x es = s + (e.d2 + c2 x es) by omega]
      have hlow : ∀ (op' : Bool) (st' : Int) (x : Int), x < e.at_ → (stat bel (f + e.d1) (s + e.d2) op' st' es x ↔ (op' = true ∧ st' ≤ x ∧ es ≠ [])) := fun op' st' x hx => by
        simp only [stat]
        cases hh : hd? es with
        | none =>
          have hes : es = [] := by cases es with | nil => rfl | cons e' es' => simp [hd?] at hh
          simp [hes]
        | some a =>
          simp only
          have := hup a hh
          rw [if_pos (by omega)]
          have hes : es ≠ [] := by rintro rfl; simp [hd?] at hh
          constructor
          · exact fun h => ⟨h.1, h.2, hes⟩
          · exact fun h => ⟨h.1, h.2.1⟩
      have hT : ∀ x, x < e.at_ → (stat bel f s op st (e :: es) x ↔ (op = true ∧ st ≤ x)) := fun x hx => by simp only [stat, hd_cons, if_pos hx]
      by_cases hio : inn = op
      · rw [if_pos hio]
        subst hio
        obtain ⟨i1, i2⟩ := sw_spec bel hbel es (f + e.d1) (s + e.d2) inn st e.at_ a2 (by omega) (by omega) hend (fun h a ha => by have := hst h; have := hup a ha; omega)
        refine ⟨fun x => ?_, fun l0 h1 h2 => i2 l0 h1 (fun a ha => by have := h2 e.at_ rfl; have := hup a ha; omega)⟩
        rw [i1]
        by_cases hx : x < e.at_
        · rw [hlow _ _ _ hx, hT x hx]
          constructor
          · exact fun h => ⟨h.1, h.2.1⟩
          · exact fun h => ⟨h.1, h.2, fun he => by have := hend he; rw [this] at h; exact absurd h.1 (by simp)⟩
        · by_cases ho : inn = true
          · exact hstat st x (by have := hst ho; omega) (by omega)
          · -- nothing is open: the start does not matter
            have ho : inn = false := by simpa using ho
            have h0 := hstat e.at_ x (Int.le_refl _) (by omega)
            rw [← h0]
            simp only [stat, ho]
            cases hd? es with
            | none => rfl
            | some a => simp
      · rw [if_neg hio]
        obtain ⟨i1, i2⟩ := sw_spec bel hbel es (f + e.d1) (s + e.d2) inn e.at_ e.at_ a2 (by omega) (by omega) hend (fun _ a ha => hup a ha)
        cases op with
        | true =>
          have hinn : inn = false := by cases inn with | true => exact absurd rfl hio | false => rfl
          rw [if_pos rfl]
          refine ⟨fun x => ?_, fun l0 h1 h2 => ⟨h1 rfl, hst rfl, i2 e.at_ (fun h => by rw [hinn] at h; cases h) hup⟩⟩
          rw [List.singleton_append, inS_cons, i1]
          by_cases hx : x < e.at_
          · rw [hlow _ _ _ hx, hT x hx, hinn]
            simp only [Bool.false_eq_true, false_and, or_false]
            constructor
            · exact fun h => ⟨trivial, h.1⟩
            · exact fun h => ⟨h.2, hx⟩
          · rw [hstat e.at_ x (Int.le_refl _) (by omega)]
            constructor
            · rintro (h | h)
              · simp only at h; omega
              · exact h
            · exact .inr
        | false =>
          have hinn : inn = true := by cases inn with | true => rfl | false => exact absurd rfl hio
          rw [if_neg (by simp), List.nil_append]
          refine ⟨fun x => ?_, fun l0 h1 h2 => i2 l0 (fun _ => h2 e.at_ rfl) (fun a ha => by have := h2 e.at_ rfl; have := hup a ha; omega)⟩
          rw [i1]
          by_cases hx : x < e.at_
          · rw [hlow _ _ _ hx, hT x hx]
            constructor
            · exact fun h => by omega
            · exact fun h => absurd h.1 (by simp)
          · exact hstat e.at_ x (Int.le_refl _) (by omega)
end Go.Wage
