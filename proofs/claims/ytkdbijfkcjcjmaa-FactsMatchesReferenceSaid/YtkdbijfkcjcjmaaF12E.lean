/-
  Plain part of layer 12: the fixed example of the laws' head.
  Conditions: none.
-/
import Derived.Test.YtkdbijfkcjcjmaaF12C
import Derived.Test.YtkdbijfkcjcjmaaF12D
namespace Go.Wage
def ann : ByteArray := ⟨#[97, 110, 110]⟩
def hours : ByteArray := ⟨#[104, 111, 117, 114, 115]⟩
def ahF (a b c d : Int) : Fa := ⟨ann, hours, a, b, c, d, false⟩
def ex0 : List Fa := [ahF 10 20 5 480, ahF 12 14 30 300, ⟨ann, hours, 15, 20, 40, 0, true⟩]
theorem ex_valid : validF ex0 = true := by decide +kernel
theorem ex_v1 : valR ex0 ann hours 12 29 = (480, 0, true) := by decide +kernel
theorem ex_v2 : valR ex0 ann hours 12 30 = (300, 1, true) := by decide +kernel
theorem ex_v3 : valR ex0 ann hours 15 40 = (0, -1, false) := by decide +kernel
theorem ex_v4 : valR ex0 ann hours 20 40 = (0, -1, false) := by decide +kernel
theorem ex_r1 : recR ex0 (ahF 1 2 39 1) = ([], 6) := by decide +kernel
theorem ex_r2 : recR ex0 (ahF 1 2 40 1) = (ex0 ++ [ahF 1 2 40 1], 0) := by decide +kernel
theorem ex_p : pplR (ex0 ++ [ahF 1 2 40 1]) = [ann] := by decide +kernel
theorem ex_vt : validF (ex0 ++ [ahF 1 2 40 1]) = true := by decide +kernel
def exL (d t : Int) : Int × Int × Bool :=
  if 40 ≤ t ∧ 15 ≤ d ∧ d < 20 then (0, -1, false) else if 30 ≤ t ∧ 12 ≤ d ∧ d < 14 then (300, 1, true) else if 5 ≤ t ∧ 10 ≤ d ∧ d < 20 then (480, 0, true) else (0, -1, false)
theorem ex_look (d t : Int) : lookR ex0 ann hours d t = exL d t := by
  have e : ∀ a b c v g, hitB ann hours d t ⟨ann, hours, a, b, c, v, g⟩ = (decide (c ≤ t) && decide (a ≤ d) && decide (d < b)) := fun a b c v g => by simp [hitB]
  unfold lookR ex0 ahF exL
  simp only [lastH, e]
  by_cases h1 : 40 ≤ t ∧ 15 ≤ d ∧ d < 20
  · rw [if_pos h1, if_pos (by simp; omega)]; simp [resR]
  · rw [if_neg h1, if_neg (by simp; omega)]
    by_cases h2 : 30 ≤ t ∧ 12 ≤ d ∧ d < 14
    · rw [if_pos h2, if_pos (by simp; omega)]; simp [resR]
    · rw [if_neg h2, if_neg (by simp; omega)]
      by_cases h3 : 5 ≤ t ∧ 10 ≤ d ∧ d < 20
      · rw [if_pos h3, if_pos (by simp; omega)]; simp [resR]
      · rw [if_neg h3, if_neg (by simp; omega)]; simp [resR]
theorem ex_chg {b a x y : Int} (h0 : 0 ≤ x) (hxy : x < y) (h : ∀ d, (x ≤ d ∧ d < y) ↔ exL d b ≠ exL d a) : chgR ex0 ann hours b a = [(x, y)] := by
  have hV : VF (-1152921504606846977) (chgR ex0 ann hours b a) := by unfold chgR; rw [if_pos ex_valid]; exact (nrm_spec _).1
  refine hV.uniq (lb' := -1) ⟨by simp only; omega, hxy, trivial⟩ fun d => ?_
  rw [chg_in ex_valid, ex_look, ex_look, ← h]
  simp [inS]
theorem ex_c1 : chgR ex0 ann hours 29 30 = [(12, 14)] := ex_chg (by decide) (by decide) fun d => by
  unfold exL
  constructor
  · intro h
    rw [if_neg (by omega), if_neg (by omega), if_pos (by omega), if_neg (by omega), if_pos (by omega)]; decide
  · intro h
    by_cases hd : 12 ≤ d ∧ d < 14
    · exact hd
    · rw [if_neg (by omega), if_neg (by omega), if_neg (show ¬ (40 ≤ (30 : Int) ∧ 15 ≤ d ∧ d < 20) by omega), if_neg (show ¬ (30 ≤ (30 : Int) ∧ 12 ≤ d ∧ d < 14) by omega)] at h
      by_cases h3 : 10 ≤ d ∧ d < 20
      · rw [if_pos (by omega), if_pos (by omega)] at h; exact absurd rfl h
      · rw [if_neg (by omega), if_neg (by omega)] at h; exact absurd rfl h
theorem ex_c2 : chgR ex0 ann hours 0 40 = [(10, 15)] := ex_chg (by decide) (by decide) fun d => by
  have e : exL d 0 = (0, -1, false) := by
    unfold exL
    rw [if_neg (by omega), if_neg (by omega), if_neg (by omega)]
  rw [e]
  unfold exL
  constructor
  · intro h
    rw [if_neg (by omega)]
    by_cases h2 : 12 ≤ d ∧ d < 14
    · rw [if_pos (by omega)]; decide
    · rw [if_neg (by omega), if_pos (by omega)]; decide
  · intro h
    by_cases hd : 10 ≤ d ∧ d < 15
    · exact hd
    · by_cases h1 : 15 ≤ d ∧ d < 20
      · rw [if_pos (by omega)] at h; exact absurd rfl h
      · rw [if_neg (by omega), if_neg (by omega), if_neg (by omega)] at h; exact absurd rfl h
end Go.Wage
