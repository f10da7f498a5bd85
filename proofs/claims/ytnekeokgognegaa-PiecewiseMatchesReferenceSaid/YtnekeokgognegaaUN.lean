/-
  Plain: the starts of two functions, merged.
  Conditions: none beyond the premises of each theorem.
-/
import Derived.Test.YtnekeokgognegaaUA
namespace Go.Wage
def mrgI : List Int → List Int → List Int
  | [], b => b
  | x :: a, b => go x a (mrgI a) b
where
  go (x : Int) (a : List Int) (r : List Int → List Int) : List Int → List Int
  | [] => x :: a
  | y :: b => if x < y then x :: r (y :: b) else if x = y then y :: r b else y :: go x a r b
theorem mrgI_nil (b : List Int) : mrgI [] b = b := rfl
theorem mrgI_nil' (a : List Int) : mrgI a [] = a := by cases a <;> rfl
theorem mrgI_cons (x y : Int) (a b : List Int) : mrgI (x :: a) (y :: b) = if x < y then x :: mrgI a (y :: b) else if x = y then y :: mrgI a b else y :: mrgI (x :: a) b := rfl
theorem mrgI_mem (x : Int) : ∀ (n : Nat) (a b : List Int), a.length + b.length ≤ n → (x ∈ mrgI a b ↔ x ∈ a ∨ x ∈ b) := by
  intro n
  induction n with
  | zero =>
    intro a b h
    have h1 : a = [] := List.eq_nil_of_length_eq_zero (by omega)
    subst h1
    simp [mrgI_nil]
  | succ n ih =>
    intro a b h
    cases a with
    | nil => simp [mrgI_nil]
    | cons u a =>
      cases b with
      | nil => simp [mrgI_nil']
      | cons v b =>
        simp only [List.length_cons] at h
        rw [mrgI_cons]
        split
        · rw [List.mem_cons, ih a (v :: b) (by simp only [List.length_cons]; omega)]
          simp only [List.mem_cons, or_assoc]
        · split
          · rename_i hu
            rw [List.mem_cons, ih a b (by omega)]
            simp only [List.mem_cons]
            constructor
            · rintro (h | h | h) <;> simp [h]
            · rintro ((h | h) | h | h) <;> simp [h, hu]
          · rw [List.mem_cons, ih (u :: a) b (by simp only [List.length_cons]; omega)]
            simp only [List.mem_cons]
            constructor
            · rintro (h | (h | h) | h) <;> simp [h]
            · rintro ((h | h) | h | h) <;> simp [h]
theorem mrgI_asc : ∀ (n : Nat) (a b : List Int), a.length + b.length ≤ n → a.Pairwise (· < ·) → b.Pairwise (· < ·) → (mrgI a b).Pairwise (· < ·) := by
  intro n
  induction n with
  | zero =>
    intro a b h _ hb
    have h1 : a = [] := List.eq_nil_of_length_eq_zero (by omega)
    subst h1
    exact hb
  | succ n ih =>
    intro a b h ha hb
    cases a with
    | nil => exact hb
    | cons u a =>
      cases b with
      | nil => rw [mrgI_nil']; exact ha
      | cons v b =>
        simp only [List.length_cons] at h
        rw [List.pairwise_cons] at ha
        have hb' := hb
        rw [List.pairwise_cons] at hb
        rw [mrgI_cons]
        split
        · rename_i hlt
          rw [List.pairwise_cons]
          refine ⟨fun x hx => ?_, ih a (v :: b) (by simp only [List.length_cons]; omega) ha.2 hb'⟩
          rw [mrgI_mem x _ _ _ (Nat.le_refl _)] at hx
          rcases hx with hx | hx
          · exact ha.1 x hx
          · rcases List.mem_cons.1 hx with rfl | hx
            · exact hlt
            · have := hb.1 x hx; omega
        · split
          · rename_i hu
            rw [List.pairwise_cons]
            refine ⟨fun x hx => ?_, ih a b (by omega) ha.2 hb.2⟩
            rw [mrgI_mem x _ _ _ (Nat.le_refl _)] at hx
            rcases hx with hx | hx
            · have := ha.1 x hx; omega
            · exact hb.1 x hx
          · rename_i h1 h2
            rw [List.pairwise_cons]
            refine ⟨fun x hx => ?_, ih (u :: a) b (by simp only [List.length_cons]; omega) (List.pairwise_cons.2 ha) hb.2⟩
            rw [mrgI_mem x _ _ _ (Nat.le_refl _)] at hx
            rcases hx with hx | hx
            · rcases List.mem_cons.1 hx with rfl | hx
              · omega
              · have := ha.1 x hx; omega
            · exact hb.1 x hx
theorem frm_asc {den : Int} {ps : List Pc} (h : validB den ps = true) : (ps.map Pc.frm).Pairwise (· < ·) := by
  rw [List.pairwise_iff_getElem]
  intro i j hi hj hij
  rw [List.getElem_map, List.getElem_map]
  rw [List.length_map] at hi hj
  exact valid_incr h hij (List.getElem?_eq_getElem hi) (List.getElem?_eq_getElem hj)
theorem starts_mrg {den den' : Int} {ps qs : List Pc} (hp : validB den ps = true) (hq : qs = [] ∨ validB den' qs = true) : mrgI (ps.map Pc.frm) (qs.map Pc.frm) = startsR ps qs := by
  refine asc_uniq (mrgI_asc _ _ _ (Nat.le_refl _) (frm_asc hp) ?_) (srtI_asc _) fun x => ?_
  · rcases hq with rfl | hq
    · exact List.Pairwise.nil
    · exact frm_asc hq
  · rw [mrgI_mem x _ _ _ (Nat.le_refl _)]
    unfold startsR
    rw [srtI_mem, List.mem_append]
end Go.Wage
