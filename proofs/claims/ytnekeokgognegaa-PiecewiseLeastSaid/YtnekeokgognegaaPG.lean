/-
  Plain: the example of the laws, the normal form of the solutions.
  Conditions: none beyond the premises of each theorem.
-/
import Derived.Test.YtnekeokgognegaaPF
namespace Go.Wage
theorem ins_len : ∀ (l : List Sp) (a b : Int), (ins a b l).length ≤ l.length + 1
  | [], a, b => by simp [ins]
  | s :: l, a, b => by
    unfold ins
    have h1 := ins_len l a b
    have h2 := fun c d => ins_len l c d
    repeat' split
    all_goals (try simp only [List.length_cons])
    all_goals first | omega | (have := h2 (min a s.1) (max b s.2); omega)
theorem nrm_len : ∀ l : List Sp, (nrm l).length ≤ l.length
  | [] => Nat.le_refl _
  | s :: l => by
    unfold nrm
    have := nrm_len l
    split
    · have := ins_len (nrm l) s.1 s.2
      simp only [List.length_cons]; omega
    · simp only [List.length_cons]; omega
theorem VF.mem {s : Sp} : ∀ {l : List Sp} {lb : Int}, VF lb l → s ∈ l → lb < s.1 ∧ s.1 < s.2
  | q :: l, lb, ⟨h1, h2, h3⟩, hs => by
    rcases List.mem_cons.1 hs with rfl | hs
    · exact ⟨h1, h2⟩
    · have := VF.mem h3 hs
      omega
theorem net_range {den : Int} {ps : List Pc} {x n : Int} (h : netR den ps x = (n, 0)) : 0 ≤ x ∧ x ≤ 1000000000000 := by
  have hb := roundR_bd den ps x 0
  unfold netR at h
  split at h
  · rename_i h1; exact hb.2.2.1 h1
  · rename_i h1
    simp only [Prod.mk.injEq] at h
    exact absurd h.2 h1
theorem sol_prp {den net : Int} {ps : List Pc} (hv : validB den ps = true) {s : Sp} (hs : s ∈ nrm (sols den ps net)) : prp s = true := by
  have h1 := (nrm_spec (sols den ps net)).1.mem hs
  have h2 := net_range ((solve_spec hv s.1).1 ⟨s, hs, by omega, by omega⟩)
  have h3 := net_range ((solve_spec hv (s.2 - 1)).1 ⟨s, hs, by omega, by omega⟩)
  simp only [prp, Bool.and_eq_true, decide_eq_true_eq]
  omega
theorem sol_idem {den net : Int} {ps : List Pc} (hv : validB den ps = true) : nrm (sols den ps net) = nrm (nrm (sols den ps net)) :=
  nrm_uniq (nrm_spec _).1 fun x => by
    rw [List.filter_eq_self.2 (fun s hs => sol_prp hv hs)]
theorem sol_has {den net : Int} {ps : List Pc} (hv : validB den ps = true) (n : Int) : ((nrm (sols den ps net)).any fun s => prp s && decide (s.1 ≤ n) && decide (n < s.2)) = decide (netR den ps n = (net, 0)) := by
  rw [Bool.eq_iff_iff, decide_eq_true_eq, ← solve_spec hv, List.any_eq_true]
  constructor
  · rintro ⟨s, hs, h⟩
    simp only [Bool.and_eq_true, decide_eq_true_eq] at h
    exact ⟨s, hs, h.1.2, h.2⟩
  · rintro ⟨s, hs, h1, h2⟩
    exact ⟨s, hs, by simp [sol_prp hv hs, h1, h2]⟩
/-! the example -/
def exPs : List Pc := [⟨0, 0, 0⟩, ⟨1000, 0, 10⟩, ⟨1200, 2000, 5⟩]
theorem ex_valid : validB 10 exPs = true := by decide
theorem ex_onL {v : Int → Prop} {x : Int} : onL 10 v x exPs ↔ (0 ≤ x ∧ x < 1000 ∧ v x) ∨ (1000 ≤ x ∧ x < 1200 ∧ v 1000) ∨ (1200 ≤ x ∧ x ≤ 1000000000000 ∧ v (x - (5 * x - 4000) / 10)) := by
  have e1 : wh 10 ⟨0, 0, 0⟩ x = 0 := by unfold wh; dsimp only; omega
  have e2 : wh 10 ⟨1000, 0, 10⟩ x = x - 1000 := by unfold wh; dsimp only; omega
  have e3 : wh 10 ⟨1200, 2000, 5⟩ x = (5 * x - 4000) / 10 := by unfold wh; dsimp only; omega
  unfold exPs onL onL onL onL nt nxt
  simp only [e1, e2, e3, or_false]
  rw [show x - 0 = x by omega, show x - (x - 1000) = 1000 by omega]
  constructor
  · rintro (⟨h1, h2, h3, h4, h5⟩ | ⟨h1, h2, h3, h4, h5⟩ | ⟨h1, h2, h3, h4, h5⟩)
    · exact .inl ⟨h1, h2, h5⟩
    · exact .inr (.inl ⟨h1, h2, h5⟩)
    · exact .inr (.inr ⟨h1, by omega, h5⟩)
  · rintro (⟨h1, h2, h3⟩ | ⟨h1, h2, h3⟩ | ⟨h1, h2, h3⟩)
    · exact .inl ⟨h1, h2, by omega, by omega, h3⟩
    · exact .inr (.inl ⟨h1, h2, by omega, by omega, h3⟩)
    · exact .inr (.inr ⟨h1, by omega, by omega, by omega, h3⟩)
theorem ex_net {x n : Int} : netR 10 exPs x = (n, 0) ↔ (0 ≤ x ∧ x < 1000 ∧ x = n) ∨ (1000 ≤ x ∧ x < 1200 ∧ 1000 = n) ∨ (1200 ≤ x ∧ x ≤ 1000000000000 ∧ x - (5 * x - 4000) / 10 = n) := by
  rw [net_iff ex_valid, ex_onL]
theorem ex_solve {net a b : Int} (hab : a < b) (ha : -1 < a) (h : ∀ x, a ≤ x ∧ x < b ↔ netR 10 exPs x = (net, 0)) : nrm (sols 10 exPs net) = [(a, b)] :=
  solve_uniq (lb := -1) ex_valid ⟨ha, hab, trivial⟩ fun x => by
    rw [← h]
    simp [inS]
theorem ex_s1 : nrm (sols 10 exPs 999) = [(999, 999 + 1)] := ex_solve (by omega) (by omega) fun x => by rw [ex_net]; omega
theorem ex_s2 : nrm (sols 10 exPs 1000) = [(1000, 1200 + 1)] := ex_solve (by omega) (by omega) fun x => by rw [ex_net]; omega
theorem ex_s3 : nrm (sols 10 exPs 1001) = [(1201, 1202 + 1)] := ex_solve (by omega) (by omega) fun x => by rw [ex_net]; omega
theorem ex_least : lea 10 1001 (strs 10 exPs) = (1201, 0) := by
  have hy : onL 10 (fun v => 1001 ≤ v) 1201 exPs := by rw [ex_onL]; omega
  rcases lea_spec (net := 1001) (valid_okPs ex_valid) with ⟨h1, h2, h3⟩ | ⟨_, h2⟩
  · rw [ex_onL] at h2
    have h4 : ¬ 1201 < (lea 10 1001 (strs 10 exPs)).1 := fun h => h3 1201 h hy
    exact Prod.ext (by omega) h1
  · exact absurd hy (h2 1201)
end Go.Wage
