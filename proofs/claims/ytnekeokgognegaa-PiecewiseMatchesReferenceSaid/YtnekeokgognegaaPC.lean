/-
  Plain: the list of edges of two lists of spans, and what any sorted permutation of it counts.
  Conditions: none beyond the premises of each theorem.
-/
import Derived.Test.YtnekeokgognegaaPB
namespace Go.Wage
def ed1 (s : Sp) : List Ed := if prp s = true then [⟨s.1, 1, 0⟩, ⟨s.2, -1, 0⟩] else []
def ed2 (s : Sp) : List Ed := if prp s = true then [⟨s.1, 0, 1⟩, ⟨s.2, 0, -1⟩] else []
def eds (a b : List Sp) : List Ed := a.flatMap ed1 ++ b.flatMap ed2
theorem c1_append (x : Int) : ∀ l m : List Ed, c1 x (l ++ m) = c1 x l + c1 x m
  | [], m => by simp [c1]
  | e :: l, m => by rw [List.cons_append, c1, c1, c1_append x l m]; omega
theorem c2_append (x : Int) : ∀ l m : List Ed, c2 x (l ++ m) = c2 x l + c2 x m
  | [], m => by simp [c2]
  | e :: l, m => by rw [List.cons_append, c2, c2, c2_append x l m]; omega
theorem t1_append : ∀ l m : List Ed, t1 (l ++ m) = t1 l + t1 m
  | [], m => by simp [t1]
  | e :: l, m => by rw [List.cons_append, t1, t1, t1_append l m]; omega
theorem t2_append : ∀ l m : List Ed, t2 (l ++ m) = t2 l + t2 m
  | [], m => by simp [t2]
  | e :: l, m => by rw [List.cons_append, t2, t2, t2_append l m]; omega
theorem c_perm {l m : List Ed} (h : l.Perm m) (x : Int) : c1 x l = c1 x m ∧ c2 x l = c2 x m ∧ t1 l = t1 m ∧ t2 l = t2 m := by
  induction h with
  | nil => exact ⟨rfl, rfl, rfl, rfl⟩
  | cons e _ ih => simp only [c1, c2, t1, t2, ih, and_self]
  | swap a b l => simp only [c1, c2, t1, t2]; omega
  | trans _ _ i1 i2 => omega
theorem prp_lt {s : Sp} (h : prp s = true) : s.1 < s.2 := by
  unfold prp at h
  simp only [Bool.and_eq_true, decide_eq_true_eq] at h
  exact h.2
theorem ed1_c (x : Int) : ∀ a : List Sp, 0 ≤ c1 x (a.flatMap ed1) ∧ (0 < c1 x (a.flatMap ed1) ↔ inS (a.filter prp) x) ∧ c2 x (a.flatMap ed1) = 0 ∧ t1 (a.flatMap ed1) = 0 ∧ t2 (a.flatMap ed1) = 0
  | [] => by simp [c1, c2, t1, t2, inS]
  | s :: a => by
    obtain ⟨h1, h2, h3, h4, h5⟩ := ed1_c x a
    rw [List.flatMap_cons, c1_append, c2_append, t1_append, t2_append, h3, h4, h5]
    by_cases hp : prp s = true
    · rw [List.filter_cons_of_pos hp, inS_cons, ← h2]
      have := prp_lt hp
      rw [show ed1 s = _ from if_pos hp]
      simp only [c1, c2, t1, t2]
      refine ⟨?_, ?_, ?_, by omega, by omega⟩
      · split <;> split <;> omega
      · split <;> split <;> omega
      · split <;> split <;> omega
    · rw [List.filter_cons_of_neg hp, ← h2]
      rw [show ed1 s = _ from if_neg hp]
      simp only [c1, c2, t1, t2]
      omega
theorem ed2_c (x : Int) : ∀ a : List Sp, 0 ≤ c2 x (a.flatMap ed2) ∧ (0 < c2 x (a.flatMap ed2) ↔ inS (a.filter prp) x) ∧ c1 x (a.flatMap ed2) = 0 ∧ t1 (a.flatMap ed2) = 0 ∧ t2 (a.flatMap ed2) = 0
  | [] => by simp [c1, c2, t1, t2, inS]
  | s :: a => by
    obtain ⟨h1, h2, h3, h4, h5⟩ := ed2_c x a
    rw [List.flatMap_cons, c1_append, c2_append, t1_append, t2_append, h3, h4, h5]
    by_cases hp : prp s = true
    · rw [List.filter_cons_of_pos hp, inS_cons, ← h2]
      have := prp_lt hp
      rw [show ed2 s = _ from if_pos hp]
      simp only [c1, c2, t1, t2]
      refine ⟨?_, ?_, ?_, by omega, by omega⟩
      · split <;> split <;> omega
      · split <;> split <;> omega
      · split <;> split <;> omega
    · rw [List.filter_cons_of_neg hp, ← h2]
      rw [show ed2 s = _ from if_neg hp]
      simp only [c1, c2, t1, t2]
      omega
theorem ed_small : ∀ a : List Sp, (a.flatMap ed1).length ≤ 2 * a.length ∧ (a.flatMap ed2).length ≤ 2 * a.length ∧ (∀ e ∈ a.flatMap ed1, -1 ≤ e.d1 ∧ e.d1 ≤ 1 ∧ -1 ≤ e.d2 ∧ e.d2 ≤ 1) ∧ ∀ e ∈ a.flatMap ed2, -1 ≤ e.d1 ∧ e.d1 ≤ 1 ∧ -1 ≤ e.d2 ∧ e.d2 ≤ 1
  | [] => by simp
  | s :: a => by
    obtain ⟨h1, h2, h3, h4⟩ := ed_small a
    simp only [List.flatMap_cons, List.length_append, List.length_cons, List.mem_append]
    refine ⟨?_, ?_, ?_, ?_⟩
    · have : (ed1 s).length ≤ 2 := by unfold ed1; split <;> simp
      omega
    · have : (ed2 s).length ≤ 2 := by unfold ed2; split <;> simp
      omega
    · rintro e (h | h)
      · unfold ed1 at h
        split at h
        · simp at h; rcases h with rfl | rfl <;> simp
        · simp at h
      · exact h3 e h
    · rintro e (h | h)
      · unfold ed2 at h
        split at h
        · simp at h; rcases h with rfl | rfl <;> simp
        · simp at h
      · exact h4 e h
theorem asc_of : ∀ {es : List Ed}, es.Pairwise (fun a b => a.at_ ≤ b.at_) → ∃ lb, Asc lb es
  | [], _ => ⟨0, trivial⟩
  | e :: es, h => by
    refine ⟨e.at_, Int.le_refl _, ?_⟩
    have : ∀ {es : List Ed} {lb : Int}, es.Pairwise (fun a b => a.at_ ≤ b.at_) → (∀ q ∈ es, lb ≤ q.at_) → Asc lb es := by
      intro es
      induction es with
      | nil => intros; trivial
      | cons q es ih =>
        intro lb h hq
        rw [List.pairwise_cons] at h
        exact ⟨hq q (by simp), ih h.2 h.1⟩
    rw [List.pairwise_cons] at h
    exact this h.2 h.1
/-- what a sorted permutation of the edges counts -/
theorem eds_spec {a b : List Sp} {es : List Ed} (hp : es.Perm (eds a b)) (hs : es.Pairwise (fun a b => a.at_ ≤ b.at_)) (hl : a.length + b.length ≤ 1000000000) :
    es.length ≤ 2000000000 ∧ (∀ e ∈ es, -1 ≤ e.d1 ∧ e.d1 ≤ 1 ∧ -1 ≤ e.d2 ∧ e.d2 ≤ 1) ∧ ∃ lb, Asc lb es ∧ t1 es = 0 ∧ t2 es = 0 ∧ ∀ x, (0 < c1 x es ↔ inS (a.filter prp) x) ∧ (0 < c2 x es ↔ inS (b.filter prp) x) := by
  obtain ⟨lb, hlb⟩ := asc_of hs
  have ha := ed_small a
  have hb := ed_small b
  refine ⟨?_, fun e he => ?_, lb, hlb, ?_, ?_, fun x => ?_⟩
  · rw [hp.length_eq, eds, List.length_append]; omega
  · have := hp.mem_iff.1 he
    rw [eds, List.mem_append] at this
    rcases this with h | h
    · exact ha.2.2.1 e h
    · exact hb.2.2.2 e h
  · rw [(c_perm hp 0).2.2.1, eds, t1_append, (ed1_c 0 a).2.2.2.1, (ed2_c 0 b).2.2.2.1]; rfl
  · rw [(c_perm hp 0).2.2.2, eds, t2_append, (ed1_c 0 a).2.2.2.2, (ed2_c 0 b).2.2.2.2]; rfl
  · rw [(c_perm hp x).1, (c_perm hp x).2.1, eds, c1_append, c2_append, (ed2_c x b).2.2.1, (ed1_c x a).2.2.1, Int.add_zero, Int.zero_add]
    exact ⟨(ed1_c x a).2.1, (ed2_c x b).2.1⟩
end Go.Wage
