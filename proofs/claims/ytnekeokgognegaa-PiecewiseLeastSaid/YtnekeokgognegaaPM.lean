/-
  Plain: the values of Round.
  Conditions: none beyond the premises of each theorem.
-/
import Derived.Test.YtnekeokgognegaaPH
namespace Go.Wage
theorem tmod2 (q : Int) : q.tmod 2 = 0 ↔ q % 2 = 0 := by
  constructor
  · intro h
    have := Int.dvd_of_tmod_eq_zero h
    omega
  · intro h
    exact Int.tmod_eq_zero_of_dvd (by omega)
/-- a value, rounded, or out of range -/
def Rnd (q a g : Int) : Prop := (g = 0 ∧ a = q ∧ -1000000000000 ≤ q ∧ q ≤ 1000000000000) ∨ (g = 3 ∧ ¬ (-1000000000000 ≤ q ∧ q ≤ 1000000000000))
theorem rnd_of {den x mode : Int} {ps : List Pc} (hv : validB den ps = true) (hx : 0 ≤ x ∧ x ≤ 1000000000000) (hm : mode = 0 ∨ mode = 1 ∨ mode = 2) : ∃ a g, roundR den ps x mode = (a, g) ∧ Rnd (roundQ (numAt ps x) den mode) a g := by
  unfold roundR
  rw [if_pos ⟨hv, by simpa [argB] using hx, by rcases hm with rfl | rfl | rfl <;> rfl⟩]
  by_cases h : inMax (roundQ (numAt ps x) den mode) = true
  · rw [if_pos h]
    simp only [inMax, Bool.and_eq_true, decide_eq_true_eq] at h
    exact ⟨_, _, rfl, .inl ⟨rfl, rfl, h.1, h.2⟩⟩
  · rw [if_neg h]
    simp only [inMax, Bool.and_eq_true, decide_eq_true_eq] at h
    exact ⟨_, _, rfl, .inr ⟨rfl, h⟩⟩
theorem rnd_facts {den x : Int} {ps : List Pc} (hv : validB den ps = true) (hx : 0 ≤ x ∧ x ≤ 1000000000000) :
    ∃ q q1 q2 a g b h k i, (q * den ≤ numAt ps x ∧ numAt ps x < q * den + den) ∧ roundR den ps x 0 = (a, g) ∧ roundR den ps x 1 = (b, h) ∧ roundR den ps x 2 = (k, i) ∧ Rnd q a g ∧ Rnd q1 b h ∧ Rnd q2 k i ∧
      ((q1 = q + 1 ∧ (2 * (numAt ps x - q * den) = den ∧ 0 ≤ q ∨ den < 2 * (numAt ps x - q * den))) ∨ (q1 = q ∧ ¬ (2 * (numAt ps x - q * den) = den ∧ 0 ≤ q ∨ den < 2 * (numAt ps x - q * den)))) ∧
      ((q2 = q + 1 ∧ (2 * (numAt ps x - q * den) = den ∧ ¬ q % 2 = 0 ∨ den < 2 * (numAt ps x - q * den))) ∨ (q2 = q ∧ ¬ (2 * (numAt ps x - q * den) = den ∧ ¬ q % 2 = 0 ∨ den < 2 * (numAt ps x - q * den)))) := by
  have hd := (valid_parts hv).1
  have hq := div_bd (numAt ps x) den hd
  obtain ⟨a, g, e1, r1⟩ := rnd_of (mode := 0) hv hx (.inl rfl)
  obtain ⟨b, h, e2, r2⟩ := rnd_of (mode := 1) hv hx (.inr (.inl rfl))
  obtain ⟨k, i, e3, r3⟩ := rnd_of (mode := 2) hv hx (.inr (.inr rfl))
  have hq0 : roundQ (numAt ps x) den 0 = numAt ps x / den := by unfold roundQ; simp
  rw [hq0] at r1
  generalize hN : numAt ps x = N at *
  generalize hQ : N / den = q at *
  have ht := tmod2 q
  refine ⟨q, _, _, a, g, b, h, k, i, hq, e1, e2, e3, r1, r2, r3, ?_, ?_⟩
  · by_cases hc : 2 * (N - q * den) = den ∧ 0 ≤ q ∨ den < 2 * (N - q * den)
    · exact .inl ⟨roundQ_pos hQ (by omega), hc⟩
    · exact .inr ⟨roundQ_neg hQ (by omega), hc⟩
  · by_cases hc : 2 * (N - q * den) = den ∧ ¬ q % 2 = 0 ∨ den < 2 * (N - q * den)
    · exact .inl ⟨roundQ_pos hQ (by rw [ht]; omega), hc⟩
    · exact .inr ⟨roundQ_neg hQ (by rw [ht]; omega), hc⟩
theorem rnd_mul {q den : Int} (hd : 1 ≤ den) : (q + 1) * den = q * den + den ∧ 2 * q * den = 2 * (q * den) ∧ 2 * (q + 1) * den = 2 * (q * den) + 2 * den ∧ (0 ≤ q → 0 ≤ q * den) ∧ (q ≤ -1 → q * den ≤ -den) ∧ (1000000000000 ≤ q → 1000000000000 * den ≤ q * den) ∧ (q ≤ -1000000000001 → q * den ≤ -1000000000001 * den) ∧ (-1000000000001 ≤ q → -1000000000001 * den ≤ q * den) ∧ (q ≤ 1000000000000 → q * den ≤ 1000000000000 * den) := by
  refine ⟨by rw [Int.add_mul, Int.one_mul], by rw [Int.mul_assoc], by rw [Int.mul_assoc, Int.add_mul, Int.one_mul, Int.mul_add], fun h => Int.mul_nonneg h (by omega), fun h => ?_, fun h => Int.mul_le_mul_of_nonneg_right h (by omega), fun h => Int.mul_le_mul_of_nonneg_right h (by omega), fun h => Int.mul_le_mul_of_nonneg_right h (by omega), fun h => Int.mul_le_mul_of_nonneg_right h (by omega)⟩
  have := Int.mul_le_mul_of_nonneg_right h (show 0 ≤ den by omega)
  omega
end Go.Wage
