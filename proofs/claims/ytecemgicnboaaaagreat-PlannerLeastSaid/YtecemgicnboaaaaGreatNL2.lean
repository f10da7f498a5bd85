/-
  Law 20: the rosters in their order.
  Conditions: those of each theorem.
-/
import Derived.Test.YtecemgicnboaaaaGreatNB5
namespace Go.Proofs.YtecemgicnboaaaaGreat
open Go.E2 Go.Wage
theorem numD_bd {W : Nat} (hW : 0 < W) : ∀ (k n : Nat), ∀ x ∈ numD W k n, 0 ≤ x ∧ x < W
  | 0, _, x, h => by cases h
  | k + 1, n, x, h => by
    rw [numD, List.mem_append, List.mem_singleton] at h
    rcases h with h | rfl
    · exact numD_bd hW k _ x h
    · have := Nat.mod_lt n hW
      omega
theorem numP_mem {p : Pl} (hW : 0 < p.workers.length) (n : Nat) : numP p n ∈ allR p := by
  have := comp_all (W := p.workers.length) (e := numP p n) (pre := []) (numD_bd hW _ _)
  unfold numP at this ⊢
  rw [numD_len] at this
  exact this
theorem less_app : ∀ (a x y : List Int), lessL (a ++ x) (a ++ y) = lessL x y
  | [], _, _ => rfl
  | c :: a, x, y => by rw [List.cons_append, List.cons_append, lessL, if_pos rfl, less_app a]
theorem less_irr : ∀ x : List Int, ¬ lessL x x = true
  | [] => by simp [lessL]
  | c :: x => by rw [lessL, if_pos rfl]; exact less_irr x
theorem less_asy : ∀ x y : List Int, lessL x y = true → ¬ lessL y x = true
  | [], _ => by simp [lessL]
  | _ :: _, [] => by simp [lessL]
  | c :: x, d :: y => by
    rw [lessL, lessL]
    by_cases h : c = d
    · rw [if_pos h, if_pos h.symm]; exact less_asy x y
    · rw [if_neg h, if_neg (Ne.symm h), decide_eq_true_eq, decide_eq_true_eq]; omega
theorem comp_less {W : Nat} : ∀ (m : Nat) (pre : List Int), (comp W m pre).Pairwise fun a b => lessL a b = true
  | 0, pre => by rw [comp]; exact List.pairwise_singleton _ _
  | m + 1, pre => by
    rw [comp, List.pairwise_flatMap]
    refine ⟨fun w _ => comp_less m _, ?_⟩
    refine List.Pairwise.imp (fun {a b} hab => ?_) List.pairwise_lt_range
    intro x hx y hy
    obtain ⟨e, rfl, _, _⟩ := comp_ext hx
    obtain ⟨f, rfl, _, _⟩ := comp_ext hy
    rw [List.append_assoc, List.append_assoc, less_app, List.cons_append, List.cons_append, lessL, if_neg (by omega), decide_eq_true_eq]
    omega
theorem best_first {p : Pl} {ro : List Int} (hr : ro ∈ allR p) (hw : workB p ro = true) : (bestC p).found = true ∧ (bestC p).cost ≤ costP p ro p.duties ∧ ((bestC p).cost = costP p ro p.duties → lessL ro (bestC p).best = false) := by
  have h1 := (fold_least (p := p) (allR p) ⟨false, [], 0⟩).2 ro hr hw
  refine ⟨h1.1, h1.2, fun he => ?_⟩
  exact Bool.eq_false_iff.2 (fold_first (p := p) (R := fun a b => lessL a b = true) less_irr (allR p) ⟨false, [], 0⟩ (comp_less _ _) (fun _ _ h => by cases h) less_asy ro hr hw he.symm)
end Go.Proofs.YtecemgicnboaaaaGreat
