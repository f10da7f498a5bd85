/-
  The functions that Made makes are valid.
  Conditions: those of each theorem.
-/
import Derived.Test.YtnekeokgognegaaW6
import Derived.Test.YtnekeokgognegaaPM
namespace Go.Proofs.Ytnekeokgognegaa
open Go.E2 Go.Wage
theorem atM_bd {D b : Int} (hD : 1 ≤ D ∧ D ≤ 1000) : -1000000000 ≤ atM D b ∧ atM D b ≤ 1000001000 := by
  have hm := atM_mul (b := b) hD
  have hp := pickR_bd b (n := 2000001) (by omega)
  unfold atM
  split <;> omega
theorem pcsM_valid {D : Int} {l : List T3} {n : Nat} (hD : 1 ≤ D ∧ D ≤ 1000) (h1 : 1 ≤ n) (h2 : n ≤ 30) (h3 : n ≤ l.length) : validB D (pcsM D l n) = true := by
  have hlen : (pcsM D l n).length = n := by simp [pcsM]
  have hget : ∀ i, i < n → (pcsM D l n)[i]? = some (pcM D l i) := fun i hi => by
    unfold pcsM
    rw [List.getElem?_map, List.getElem?_range hi]; rfl
  unfold validB
  rw [hlen]
  simp only [Bool.and_eq_true, decide_eq_true_eq, List.all_eq_true, List.mem_range]
  refine ⟨⟨⟨⟨by omega, by omega⟩, by omega⟩, by omega⟩, fun i hi => ?_⟩
  have ha := atM_bd (b := (l.getD i default).2.1) hD
  have hs := pickR_bd (l.getD i default).2.2 (n := 4001) (by omega)
  have hf := frmM_bd l i (by omega)
  unfold okI
  rw [hget i hi]
  dsimp only
  have hrest : (decide (-1000000 ≤ (pcM D l i).slope) && decide ((pcM D l i).slope ≤ 1000000) && decide (-1000000000000000000 ≤ (pcM D l i).at_) && decide ((pcM D l i).at_ ≤ 1000000000000000000)) = true := by
    simp only [pcM, Bool.and_eq_true]
    refine ⟨⟨⟨?_, ?_⟩, ?_⟩, ?_⟩ <;> refine decide_eq_true ?_ <;> omega
  rw [hrest, Bool.and_true]
  cases i with
  | zero => rw [if_pos rfl]; simp [pcM, frmM]
  | succ i =>
    rw [if_neg (by omega), show i + 1 - 1 = i by omega, hget i (by omega)]
    dsimp only
    have hlt : i < l.length := by omega
    have hfs := frmM_succ (List.getElem?_eq_getElem hlt)
    have hp := pickR_bd l[i].1 (n := 30000000000) (by omega)
    simp only [pcM, Bool.and_eq_true]
    refine ⟨?_, ?_⟩ <;> refine decide_eq_true ?_ <;> omega
theorem denM_bd (den : Int) : 1 ≤ denM den ∧ denM den ≤ 1000 := by
  have := pickR_bd den (n := 1000) (by omega)
  unfold denM
  omega
theorem madeM_valid (den : Int) (l : List T3) : validB (denM den) (madeM den l) = true := by
  have hD := denM_bd den
  unfold madeM
  by_cases h : l = []
  · rw [if_pos h]
    simp [validB, okI, List.range, List.range.loop]
    omega
  · rw [if_neg h]
    have : 1 ≤ l.length := List.length_pos_iff.2 h
    exact pcsM_valid hD (by omega) (by omega) (by omega)
end Go.Proofs.Ytnekeokgognegaa
