/-
  Plain: the least gross amount.
  Conditions: none beyond the premises of each theorem.
-/
import Derived.Test.YtnekeokgognegaaPE
namespace Go.Wage
theorem lea1_some {den net x : Int} {s : Str} (h : StrOK den s) (hx : lea1 den net s = some x) : s.a ≤ x ∧ x < s.b ∧ net ≤ nt den s.p x ∧ ∀ y, s.a ≤ y → y < x → ¬ net ≤ nt den s.p y := by
  have h' := h
  unfold StrOK okP at h'
  unfold lea1 at hx
  split at hx
  · rename_i h1
    simp only [Option.some.injEq] at hx
    subst hx
    exact ⟨by omega, by omega, h1, fun y h2 h3 => by omega⟩
  · split at hx
    · rename_i h1 h2
      simp only [Option.some.injEq] at hx
      have hm : ∀ x y, s.a ≤ x → x ≤ y → y < s.b → (fun x => decide (net ≤ nt den s.p x)) x = true → (fun x => decide (net ≤ nt den s.p x)) y = true := fun x y _ hxy _ hh => by
        have := nt_up h'.1.1 h2.1 hxy
        simp only [decide_eq_true_eq] at hh ⊢; omega
      have hb := fst_bd (fun x => decide (net ≤ nt den s.p x)) (Int.le_of_lt h'.2.2.1)
      rw [hx] at hb h2
      refine ⟨hb.1, h2.2, ?_, fun y h3 h4 h5 => ?_⟩
      · have := (fst_iff h'.2.2.1 hm (x := x) hb.1 h2.2).2 (by rw [hx]; exact Int.le_refl _)
        simpa using this
      · have := (fst_iff h'.2.2.1 hm (x := y) h3 (by omega)).1 (by simpa using h5)
        rw [hx] at this
        omega
    · cases hx
theorem lea1_none {den net : Int} {s : Str} (h : StrOK den s) (hx : lea1 den net s = none) : ∀ y, s.a ≤ y → y < s.b → ¬ net ≤ nt den s.p y := by
  have h' := h
  unfold StrOK okP at h'
  unfold lea1 at hx
  split at hx
  · cases hx
  · split at hx
    · cases hx
    · rename_i h1 h2
      intro y h3 h4 h5
      by_cases hs : s.p.slope ≤ den
      · have hm : ∀ x y, s.a ≤ x → x ≤ y → y < s.b → (fun x => decide (net ≤ nt den s.p x)) x = true → (fun x => decide (net ≤ nt den s.p x)) y = true := fun x y _ hxy _ hh => by
          have := nt_up h'.1.1 hs hxy
          simp only [decide_eq_true_eq] at hh ⊢; omega
        have := (fst_iff h'.2.2.1 hm (x := y) h3 h4).1 (by simpa using h5)
        exact h2 ⟨hs, by omega⟩
      · have := nt_down (p := s.p) h'.1.1 (by omega) h3
        omega
theorem onL_ge {den : Int} {v : Int → Prop} {y : Int} : ∀ {ps : List Pc}, okPs den ps → onL den v y ps → nxt ps ≤ y
  | [], _, h => h.elim
  | p :: ps, ⟨_, h2, _, h4⟩, h => by
    rcases h with h | h
    · exact h.1
    · have := onL_ge h4 h
      show p.frm ≤ y
      omega
theorem lea_spec {den net : Int} : ∀ {ps : List Pc}, okPs den ps → ((lea den net (strs den ps)).2 = 0 ∧ onL den (fun v => net ≤ v) (lea den net (strs den ps)).1 ps ∧ ∀ y, y < (lea den net (strs den ps)).1 → ¬ onL den (fun v => net ≤ v) y ps) ∨ (lea den net (strs den ps) = (0, 301) ∧ ∀ y, ¬ onL den (fun v => net ≤ v) y ps)
  | [], _ => .inr ⟨rfl, fun _ h => h⟩
  | p :: ps, ⟨h1, h2, h3, h4⟩ => by
    have hd : 1 ≤ den := by unfold okP at h1; omega
    have ih := lea_spec (net := net) h4
    have hst := fun x => str_iff hd h2 x
    -- what an empty head leaves
    have rest : (∀ y, p.frm ≤ y → y < nxt ps → -1000000000000 ≤ wh den p y → wh den p y ≤ 1000000000000 → ¬ net ≤ nt den p y) → lea den net (strs den (p :: ps)) = lea den net (strs den ps) →
        ((lea den net (strs den (p :: ps))).2 = 0 ∧ onL den (fun v => net ≤ v) (lea den net (strs den (p :: ps))).1 (p :: ps) ∧ ∀ y, y < (lea den net (strs den (p :: ps))).1 → ¬ onL den (fun v => net ≤ v) y (p :: ps)) ∨ (lea den net (strs den (p :: ps)) = (0, 301) ∧ ∀ y, ¬ onL den (fun v => net ≤ v) y (p :: ps)) := by
      intro hno he
      rw [he]
      rcases ih with ⟨a, b, c⟩ | ⟨a, b⟩
      · refine .inl ⟨a, .inr b, fun y hy h => ?_⟩
        rcases h with h | h
        · exact hno y h.1 h.2.1 h.2.2.1 h.2.2.2.1 h.2.2.2.2
        · exact c y hy h
      · refine .inr ⟨a, fun y h => ?_⟩
        rcases h with h | h
        · exact hno y h.1 h.2.1 h.2.2.1 h.2.2.2.1 h.2.2.2.2
        · exact b y h
    by_cases hlt : strA den p (nxt ps) < strB den p (nxt ps)
    · have hso : StrOK den ⟨strA den p (nxt ps), strB den p (nxt ps), p⟩ := strs_okA (ps := p :: ps) ⟨h1, h2, h3, h4⟩ _ (by rw [strs, if_pos hlt]; simp)
      have hstr : strs den (p :: ps) = ⟨strA den p (nxt ps), strB den p (nxt ps), p⟩ :: strs den ps := by rw [strs, if_pos hlt]; rfl
      cases hl : lea1 den net ⟨strA den p (nxt ps), strB den p (nxt ps), p⟩ with
      | some x =>
        have hle : lea den net (strs den (p :: ps)) = (x, 0) := by rw [hstr, lea, hl]
        rw [hle]
        obtain ⟨a, b, c, d⟩ := lea1_some hso hl
        have hx := (hst x).1 ⟨a, b⟩
        refine .inl ⟨rfl, .inl ⟨hx.1, hx.2.1, hx.2.2.1, hx.2.2.2, c⟩, fun y hy h => ?_⟩
        rcases h with h | h
        · have := (hst y).2 ⟨h.1, h.2.1, h.2.2.1, h.2.2.2.1⟩
          exact d y this.1 hy h.2.2.2.2
        · have := onL_ge h4 h
          simp only at hy
          omega
      | none =>
        refine rest (fun y a b c d => ?_) (by rw [hstr, lea, hl])
        have := (hst y).2 ⟨a, b, c, d⟩
        exact lea1_none hso hl y this.1 this.2
    · refine rest (fun y a b c d => ?_) (by rw [strs, if_neg hlt]; rfl)
      have := (hst y).2 ⟨a, b, c, d⟩
      omega
end Go.Wage
