/-
  Plain part of chapter 20: what Solve answers.
  Conditions: those of each theorem.
-/
import Derived.Test.YtecemgicnboaaaaGreatGQ
namespace Go.Wage
theorem extP_code {σ : Type} {F : Nat → σ → σ × Int} {Q : Int → Prop} : ∀ (k w : Nat) (s : σ), Q 0 → (∀ v s, Q (F v s).2) → Q (extP F k w s).2
  | 0, _, _, h0, _ => h0
  | k + 1, w, s, h0, h => by
    rw [extP]
    split
    · exact extP_code k (w + 1) _ h0 h
    · exact h w s
theorem impP_code (p : Pl) : ∀ (m : Nat) (pre : List Int) (c : Int) (s : PS), (impP p m pre c s).2 = 0 ∨ (impP p m pre c s).2 = 201
  | 0, pre, c, s => by
    rw [impP]
    split
    · exact .inr rfl
    · split <;> exact .inl rfl
  | m + 1, pre, c, s => by
    rw [impP]
    split
    · exact .inr rfl
    · split
      · exact .inl rfl
      · exact extP_code (Q := fun x => x = 0 ∨ x = 201) _ _ _ (.inl rfl) fun v s => impP_code p m _ _ s
theorem addP_code (s : RS) (x : Sg) : (addP s x).2.2 = 0 ∨ (addP s x).2.2 = 201 := by
  unfold addP
  split
  · exact .inr rfl
  · exact .inl rfl
theorem extR_code {F : Nat → RS → RS × Int × Int} {Q : Int → Prop} : ∀ (k w : Nat) (frm : List Int) (s : RS), Q 0 → (∀ v s, Q (F v s).2.2) → Q (extR F k w frm s).2
  | 0, _, _, _, h0, _ => h0
  | k + 1, w, frm, s, h0, h => by
    rw [extR]
    split
    · exact extR_code k (w + 1) _ _ h0 h
    · exact h w s
theorem refP_code (p : Pl) (b : Int) : ∀ (m : Nat) (pre : List Int) (c : Int) (s : RS), (refP p b m pre c s).2.2 = 0 ∨ (refP p b m pre c s).2.2 = 201
  | m, pre, c, s => by
    rw [refP_eq]
    split
    · exact .inr rfl
    · split
      · exact addP_code _ _
      · split
        · exact addP_code _ _
        · cases m with
          | zero => exact addP_code _ _
          | succ m =>
            rw [rfStP]
            split
            · exact extR_code (Q := fun x => x = 0 ∨ x = 201) _ _ _ _ (.inl rfl) fun v s => refP_code p b m _ _ s
            · exact addP_code _ _
theorem fold_mem {p : Pl} : ∀ (l : List (List Int)) (s : BS), l.foldl (upd p) s = s ∨ ∃ ro ∈ l, workB p ro = true ∧ l.foldl (upd p) s = ⟨true, ro, costP p ro p.duties⟩
  | [], s => .inl rfl
  | x :: l, s => by
    rw [List.foldl_cons]
    have hx : upd p s x = s ∨ (workB p x = true ∧ upd p s x = ⟨true, x, costP p x p.duties⟩) := by
      unfold upd
      split
      · rename_i h
        rw [Bool.and_eq_true] at h
        exact .inr ⟨h.1, rfl⟩
      · exact .inl rfl
    rcases fold_mem (p := p) l (upd p s x) with h | ⟨ro, h1, h2, h3⟩
    · rcases hx with h4 | ⟨h4, h5⟩
      · exact .inl (by rw [h, h4])
      · exact .inr ⟨x, by simp, h4, by rw [h, h5]⟩
    · exact .inr ⟨ro, by simp [h1], h2, h3⟩
/-- the rosters in their order, and the best of them -/
def allR (p : Pl) : List (List Int) := comp p.workers.length p.duties.length []
def bestC (p : Pl) : BS := (allR p).foldl (upd p) ⟨false, [], 0⟩
theorem solve_cases {p : Pl} {st : Int} (hv : validP p = true) (hst : 0 ≤ st ∧ st ≤ 100000) (hd : ∀ d ∈ p.duties, 0 ≤ minD d) (hp : PosP p) :
    (∃ lg, solveP p st = ⟨(bestC p).best, (bestC p).cost, lg, 0⟩ ∧ (bestC p).found = true ∧ 0 < p.duties.length) ∨ (solveP p st = ⟨[], 0, [], 0⟩ ∧ p.duties.length = 0 ∧ (bestC p).found = true) ∨ (solveP p st = ⟨[], 0, [], 171⟩ ∧ (bestC p).found = false) ∨ solveP p st = ⟨[], 0, [], 201⟩ := by
  have hspec := impP_spec (p := p) hd hp p.duties.length [] 0 ⟨st, ⟨false, [], 0⟩⟩ ⟨by simp, by simp⟩ (by simp [costP]) (by simp)
  have hcode := impP_code p p.duties.length [] 0 ⟨st, ⟨false, [], 0⟩⟩
  unfold solveP
  rw [if_neg (by rw [hv]; simp; omega)]
  by_cases h1 : (impP p p.duties.length [] 0 ⟨st, ⟨false, [], 0⟩⟩).2 = 0
  · rw [if_neg (fun h => h h1)]
    have hb : (impP p p.duties.length [] 0 ⟨st, ⟨false, [], 0⟩⟩).1.bs = bestC p := hspec h1
    rw [hb]
    cases hf : (bestC p).found with
    | false => exact .inr (.inr (.inl ⟨by rw [if_pos rfl], rfl⟩))
    | true =>
      rw [if_neg (by simp)]
      by_cases hn : p.duties.length = 0
      · rw [if_pos hn]
        exact .inr (.inl ⟨rfl, hn, rfl⟩)
      · rw [if_neg hn]
        have hc2 := refP_code p (bestC p).cost p.duties.length [] 0 ⟨(impP p p.duties.length [] 0 ⟨st, ⟨false, [], 0⟩⟩).1.fuel, someL p p.duties.length⟩
        by_cases h2 : (refP p (bestC p).cost p.duties.length [] 0 ⟨(impP p p.duties.length [] 0 ⟨st, ⟨false, [], 0⟩⟩).1.fuel, someL p p.duties.length⟩).2.2 = 0
        · rw [if_neg (fun h => h h2)]
          exact .inl ⟨_, rfl, rfl, by omega⟩
        · rw [if_pos h2, hc2.resolve_left h2]
          exact .inr (.inr (.inr rfl))
  · rw [if_pos h1, hcode.resolve_left h1]
    exact .inr (.inr (.inr rfl))
/-- the best is one of the rosters -/
theorem best_mem {p : Pl} (h : (bestC p).found = true) : ∃ ro ∈ allR p, workB p ro = true ∧ bestC p = ⟨true, ro, costP p ro p.duties⟩ := by
  rcases fold_mem (p := p) (allR p) ⟨false, [], 0⟩ with h1 | h1
  · unfold bestC at h
    rw [h1] at h
    cases h
  · exact h1
end Go.Wage
