/-
  The engine, part Q: short names for the walker's small proofs.
  Conditions: none beyond the premises of each rule.
-/
import Derived.Test.YtakfapnfabpicaaE2H
namespace Go.E2
theorem sh : (∀ (p : Prop) [Decidable p], (decide p = true) = p) ∧ (∀ (p : Prop) [Decidable p], (decide p = false) ↔ ¬ p) ∧ (∀ b : Bool, ((!b) = true) = (b = false)) ∧ (∀ b : Bool, ((!b) = false) = (b = true)) ∧
    (∀ (α : Type) (a b : α), (a ≠ b) = ¬ (a = b)) ∧ (∀ (p : Prop) [Decidable p], ¬¬ p ↔ p) ∧ (∀ a b : Int, (a > b) = (b < a)) ∧ (∀ a b : Int, (a ≥ b) = (b ≤ a)) ∧ (∀ a b : Nat, (a > b) = (b < a)) ∧ (∀ a b : Nat, (a ≥ b) = (b ≤ a)) ∧
    (∀ a b : Int, (¬ a < b) ↔ (b ≤ a)) ∧ (∀ a b : Int, (¬ a ≤ b) ↔ (b < a)) ∧ ((!true) = false) ∧ ((!false) = true) ∧ ((true = false) = False) ∧ ((false = true) = False) ∧
    (∀ (α : Type) [BEq α] [LawfulBEq α] (a b : α), (a == b) = true ↔ a = b) ∧ (∀ (α : Type) [BEq α] [LawfulBEq α] (a b : α), (a != b) = true ↔ a ≠ b) ∧ (∀ (α : Type) [BEq α] [LawfulBEq α] (a b : α), (a == b) = false ↔ a ≠ b) ∧
    (∀ (α : Type) [BEq α] [LawfulBEq α] (a b : α), (a != b) = false ↔ a = b) ∧ (∀ a b : Bool, ((a && b) = true) = (a = true ∧ b = true)) ∧ (∀ a b : Bool, ((a || b) = true) = (a = true ∨ b = true)) ∧
    (∀ a b : Bool, ((a && b) = false) ↔ (a = false ∨ b = false)) ∧ (∀ a b : Bool, ((a || b) = false) ↔ (a = false ∧ b = false)) := by
  refine ⟨fun p _ => decide_eq_true_eq, fun p _ => decide_eq_false_iff_not, fun b => by simp, fun b => by simp, fun _ _ _ => ne_eq _ _, fun p _ => Decidable.not_not, fun _ _ => rfl, fun _ _ => rfl, fun _ _ => rfl, fun _ _ => rfl,
    fun _ _ => Int.not_lt, fun _ _ => Int.not_le, rfl, rfl, by simp, by simp, fun _ _ _ _ _ => beq_iff_eq, fun _ _ _ _ _ => bne_iff_ne, fun _ _ _ _ _ => beq_eq_false_iff_ne, fun _ _ _ _ _ => bne_eq_false_iff_eq,
    fun _ _ => Bool.and_eq_true _ _, fun _ _ => Bool.or_eq_true _ _, fun _ _ => Bool.and_eq_false_iff, fun _ _ => Bool.or_eq_false_iff⟩
theorem Qb {p : Prop} (h : p := by first | exact Sb.refl _ | exact Sb.row 0 rfl | exact Sb.row 1 rfl | exact Sb.row 2 rfl | exact Sb.row 3 rfl | exact Sb.nil | exact Sb.fn0) : p := h
theorem Ql {p : Prop} (h : p := by (repeat (first | exact SbL.nil | exact Sb.refl _ | exact Sb.nil | exact Sb.row 0 rfl | exact Sb.row 1 rfl | exact Sb.row 2 rfl | exact Sb.row 3 rfl | exact Sb.ptr 0 rfl | exact Sb.ptr 1 rfl | exact Sb.ptr 2 rfl | exact Sb.ptr 3 rfl | exact Sb.ptr 4 rfl | exact Sb.fn0 | refine SbL.cons ?_ ?_ | refine Sb.agg ?_ | refine Sb.fn ?_)); done) : p := h
theorem Qo {p : Prop} (h : p := by first | omega | (simp only [List.length_cons, List.length_nil]; omega) | (simp only [List.length_cons, List.length_nil, List.length_map, List.length_append]; omega)) : p := h
theorem Qi {p : Prop} (h : p := by first | assumption | exact List.getElem?_eq_getElem (by omega) | rfl | simp [*]) : p := h
theorem Qs {p : Prop} (h : p := by (repeat (first | exact List.Sublist.refl _ | refine List.Sublist.cons_cons _ ?_ | refine List.Sublist.cons _ ?_)); done) : p := h
theorem Qk {p : Prop} (h : p := by decide +kernel) : p := h
theorem Qc {p : Prop} (h : p := by simp (decide := true) only [cutF, List.filter_cons, List.filter_nil, List.contains_cons, List.contains_nil, Bool.or_false, Bool.or_true, Bool.true_or, Bool.false_or, Bool.not_true, Bool.not_false, if_true, if_false, Bool.false_eq_true]; exact rfl) : p := h
end Go.E2
