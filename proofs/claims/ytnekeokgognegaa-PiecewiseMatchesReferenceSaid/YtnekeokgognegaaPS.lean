/-
  Plain: sorted lists of integers without doubles, their neighbours.
  Conditions: none beyond the premises of each theorem.
-/
import Derived.Test.YtnekeokgognegaaPB
import Derived.Lib.SlicesCompact
namespace Go.Wage
theorem mem_compact {zs : List Int} {x : Int} : x ∈ Go.Lib.compact zs ↔ x ∈ zs := by
  unfold Go.Lib.compact Go.Lib.compactUpTo
  constructor
  · intro h
    obtain ⟨j, hj, rfl⟩ := List.mem_map.1 h
    have hlt : j < zs.length := by simpa using (List.mem_filter.1 hj).1
    rw [getElem!_pos _ j (by simpa using hlt)]
    simp
  · intro h
    have key : ∀ j, ∀ (hj : j < zs.length), ∃ i, i ≤ j ∧ zs[i]! = zs[j] ∧ Go.Lib.keeps zs.toArray i = true := by
      intro j
      induction j with
      | zero => intro hj; exact ⟨0, Nat.le_refl _, getElem!_pos zs 0 hj, Go.Lib.keeps_lt_one _ 0 (by omega)⟩
      | succ j ih =>
        intro hj
        by_cases he : zs[j + 1] = zs[j]
        · obtain ⟨i, h1, h2, h3⟩ := ih (by omega)
          exact ⟨i, by omega, by rw [h2, he], h3⟩
        · refine ⟨j + 1, Nat.le_refl _, getElem!_pos zs (j + 1) hj, Go.Lib.keeps_pos ?_⟩
          rw [getElem!_pos _ (j + 1) (by simpa using hj), getElem!_pos _ (j + 1 - 1) (by simp; omega)]
          simpa using he
    obtain ⟨j, hj, rfl⟩ := List.getElem_of_mem h
    obtain ⟨i, h1, h2, h3⟩ := key j hj
    refine List.mem_map.2 ⟨i, List.mem_filter.2 ⟨by simp; omega, h3⟩, ?_⟩
    rw [← h2, getElem!_pos _ i (by simp; omega), getElem!_pos _ i (by omega)]
    simp
theorem asc_compact {zs : List Int} (h : zs.Pairwise (· ≤ ·)) : (Go.Lib.compact zs).Pairwise (· < ·) := by
  unfold Go.Lib.compact Go.Lib.compactUpTo
  rw [List.pairwise_map]
  have hr : (List.range zs.length).Pairwise (· < ·) := List.pairwise_lt_range
  refine (List.Pairwise.and_mem.1 (hr.filter (Go.Lib.keeps zs.toArray))).imp ?_
  rintro i j ⟨_, hj, hij⟩
  obtain ⟨hj1, hj2⟩ := List.mem_filter.1 hj
  have hjl : j < zs.length := by simpa using hj1
  rw [getElem!_pos _ i (by simp; omega), getElem!_pos _ j (by simpa using hjl)]
  have hp := List.pairwise_iff_getElem.1 h
  have h1 : zs[i] ≤ zs[j - 1] := by
    rcases Nat.lt_or_ge i (j - 1) with h' | h'
    · exact hp i (j - 1) (by omega) (by omega) h'
    · have : i = j - 1 := by omega
      subst this
      exact Int.le_refl _
  have h2 : zs[j - 1] ≤ zs[j] := hp (j - 1) j (by omega) hjl (by omega)
  have h3 : zs[j - 1] ≠ zs[j] := by
    intro he
    have : Go.Lib.keeps zs.toArray j = false := Go.Lib.keeps_neg (by omega) (by
      rw [getElem!_pos _ j (by simpa using hjl), getElem!_pos _ (j - 1) (by simp; omega)]
      simpa using he.symm)
    rw [this] at hj2
    cases hj2
  show zs[i] < zs[j]
  omega
def sI (zs : List Int) : List Int := Go.Lib.compact (zs.mergeSort fun x y => decide (x ≤ y))
theorem sI_mem {zs : List Int} {x : Int} : x ∈ sI zs ↔ x ∈ zs := by
  unfold sI
  rw [mem_compact]
  exact List.mem_mergeSort
theorem sI_asc (zs : List Int) : (sI zs).Pairwise (· < ·) := by
  unfold sI
  refine asc_compact ?_
  have := List.pairwise_mergeSort (le := fun x y : Int => decide (x ≤ y)) (fun a b c h1 h2 => by simp only [decide_eq_true_eq] at *; omega) (fun a b => by simp only [Bool.or_eq_true, decide_eq_true_eq]; omega) zs
  exact this.imp fun h => by simpa using h
theorem asc_uniq : ∀ {a b : List Int}, a.Pairwise (· < ·) → b.Pairwise (· < ·) → (∀ x, x ∈ a ↔ x ∈ b) → a = b
  | [], [], _, _, _ => rfl
  | [], y :: b, _, _, h => absurd ((h y).2 (by simp)) (by simp)
  | x :: a, [], _, _, h => absurd ((h x).1 (by simp)) (by simp)
  | x :: a, y :: b, ha, hb, h => by
    rw [List.pairwise_cons] at ha hb
    have e : x = y := by
      rcases List.mem_cons.1 ((h x).1 (by simp)) with h1 | h1
      · exact h1
      · rcases List.mem_cons.1 ((h y).2 (by simp)) with h2 | h2
        · exact h2.symm
        · have := hb.1 x h1; have := ha.1 y h2; omega
    subst e
    rw [asc_uniq ha.2 hb.2 fun z => ?_]
    constructor
    · intro hz
      rcases List.mem_cons.1 ((h z).1 (by simp [hz])) with h1 | h1
      · have := ha.1 z hz; omega
      · exact h1
    · intro hz
      rcases List.mem_cons.1 ((h z).2 (by simp [hz])) with h1 | h1
      · have := hb.1 z hz; omega
      · exact h1
def prs : List Int → List Sp
  | a :: b :: l => (a, b) :: prs (b :: l)
  | _ => []
theorem prs_get : ∀ {l : List Int} {k : Nat} {a b : Int}, l[k]? = some a → l[k + 1]? = some b → (prs l)[k]? = some (a, b)
  | x :: y :: l, 0, a, b, h1, h2 => by simp at h1 h2; subst h1; subst h2; rfl
  | x :: y :: l, k + 1, a, b, h1, h2 => by
    simp only [prs, List.getElem?_cons_succ] at h1 h2 ⊢
    exact prs_get (l := y :: l) h1 h2
  | [x], 0, _, _, _, h2 => by simp at h2
  | [x], k + 1, _, _, h1, _ => by simp at h1
  | [], _, _, _, h1, _ => by simp at h1
theorem prs_len : ∀ (l : List Int), (prs l).length = l.length - 1
  | [] => rfl
  | [_] => rfl
  | _ :: y :: l => by simp only [prs, List.length_cons, prs_len (y :: l)]; omega
end Go.Wage
