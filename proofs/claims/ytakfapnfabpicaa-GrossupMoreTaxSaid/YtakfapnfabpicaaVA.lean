/-
  What Solve, Least and Has answer.
  Conditions: those of each theorem.
-/
import Derived.Test.YtakfapnfabpicaaV15
namespace Go.Proofs.Ytakfapnfabpicaa
open Go.E2 Go.Wage
theorem errR_valid {den net : Int} {ps : List Pc} (he : errR den ps net = 0) : validB den ps = true ∧ inMax net = true := by
  unfold errR at he
  split at he
  · split at he
    · exact ⟨by assumption, by assumption⟩
    · omega
  · omega
theorem errR_cases (den net : Int) (ps : List Pc) : errR den ps net = 0 ∨ errR den ps net = 1 ∨ errR den ps net = 3 := by
  unfold errR
  split
  · split
    · exact .inl rfl
    · exact .inr (.inr rfl)
  · exact .inr (.inl rfl)
theorem least_facts (den net : Int) (ps : List Pc) :
    (∃ le m, leastR den ps net = (le, 0) ∧ netR den ps le = (m, 0) ∧ net ≤ m ∧ ∀ y n, netR den ps y = (n, 0) → net ≤ n → le ≤ y) ∨
    (leastR den ps net = (0, 301) ∧ ∀ y n, netR den ps y = (n, 0) → ¬ net ≤ n) ∨
    (∃ e, leastR den ps net = (0, e) ∧ (e = 1 ∨ e = 3) ∧ errR den ps net = e) := by
  by_cases he : errR den ps net = 0
  · have hv := (errR_valid he).1
    unfold leastR
    rw [if_pos he]
    rcases lea_spec (net := net) (valid_okPs hv) with ⟨h1, h2, h3⟩ | ⟨h1, h2⟩
    · obtain ⟨m, h4, h5⟩ := (net_some hv).1 h2
      refine .inl ⟨_, m, Prod.ext rfl h1, h4, h5, fun y n hy hn => ?_⟩
      by_cases hc : (lea den net (strs den ps)).1 ≤ y
      · exact hc
      · exact absurd ((net_some hv).2 ⟨n, hy, hn⟩) (h3 y (by omega))
    · exact .inr (.inl ⟨h1, fun y n hy hn => h2 y ((net_some hv).2 ⟨n, hy, hn⟩)⟩)
  · unfold leastR
    rw [if_neg he]
    rcases errR_cases den net ps with h | h | h
    · exact absurd h he
    · exact .inr (.inr ⟨_, rfl, .inl h, rfl⟩)
    · exact .inr (.inr ⟨_, rfl, .inr h, rfl⟩)
theorem net_valid {den : Int} {ps : List Pc} {x n : Int} (h : netR den ps x = (n, 0)) : validB den ps = true := by
  by_cases hv : validB den ps = true
  · exact hv
  · unfold netR roundR at h
    simp [hv] at h
theorem has_sol {den net : Int} {ps : List Pc} (hlen : ps.length ≤ 70) (hv : validB den ps = true) (n : Int) : FnA Try.prog 22 [.sl 2 ((nrm (sols den ps net)).map spav), I n] (B (decide (netR den ps n = (net, 0)))) :=
  (sHas_ok _ n (by
    have h1 := nrm_len (sols den ps net)
    have h2 := strs_len (den := den) ps
    have h3 : (sols den ps net).length = (strs den ps).length := by unfold sols; simp
    omega)).val (congrArg B (by unfold hasB; exact sol_has hv n))
theorem solve_has {den net : Int} {ps : List Pc} (h70 : ps.length ≤ 70) (x : Int) : FnA Try.prog 22 [.sl 2 ((solveR den ps net).map spav), I x] (B (decide (errR den ps net = 0 ∧ netR den ps x = (net, 0)))) := by
  unfold solveR
  by_cases he : errR den ps net = 0
  · rw [if_pos he]
    exact (has_sol h70 (errR_valid he).1 x).val (congrArg B (decide_eq_decide.2 (by simp [he])))
  · rw [if_neg he]
    exact (sHas_ok [] x (by simp)).val (congrArg B (by simp [hasB, he]))
end Go.Proofs.Ytakfapnfabpicaa
