/-
  Plain: the values of sums, their validity.
  Conditions: those of each theorem.
-/
import Derived.Test.YtnekeokgognegaaU9
namespace Go.Proofs.Ytnekeokgognegaa
open Go.E2 Go.Wage
theorem pcAt_mem {l : List Pc} {p : Pc} {c : Int} (ha : (l.map Pc.frm).Pairwise (· < ·)) (hp : p ∈ l) (h1 : p.frm ≤ c) (h2 : ∀ q ∈ l, q.frm ≤ p.frm ∨ c < q.frm) : pcAt l c = p := by
  obtain ⟨i, hi⟩ := List.getElem?_of_mem hp
  obtain ⟨hlt, he⟩ := List.getElem?_eq_some_iff.1 hi
  have hm : ∀ {j k : Nat} {a b : Pc}, l[j]? = some a → l[k]? = some b → j < k → a.frm < b.frm := fun {j k a b} ha' hb' hjk => by
    obtain ⟨hj, e1⟩ := List.getElem?_eq_some_iff.1 ha'
    obtain ⟨hk, e2⟩ := List.getElem?_eq_some_iff.1 hb'
    have := List.pairwise_iff_getElem.1 ha j k (by simpa using hj) (by simpa using hk) hjk
    rw [List.getElem_map, List.getElem_map, e1, e2] at this
    exact this
  refine (pcAt_eq hi (fun j q hj hq => ?_) (fun q hq => ?_)).2
  · rcases Nat.lt_or_ge j i with h | h
    · have := hm hq hi h
      omega
    · have e : j = i := by omega
      subst e
      rw [hi] at hq
      cases hq
      exact h1
  · have := hm hi hq (by omega)
    rcases h2 q (List.mem_of_getElem? hq) with h | h
    · omega
    · exact h
theorem prs_pw : ∀ {l : List Int}, l.Pairwise (· < ·) → (prs l).Pairwise (fun a b => a.2 ≤ b.1) ∧ (∀ s ∈ prs l, s.1 < s.2 ∧ s.1 ∈ l ∧ s.2 ∈ l) ∧ (∀ s ∈ prs l, ∀ x ∈ l, x ≤ s.1 ∨ s.2 ≤ x)
  | [], _ => by simp [prs]
  | [x], _ => by simp [prs]
  | x :: y :: l, h => by
    have h' := h
    rw [List.pairwise_cons] at h
    obtain ⟨h1, h2, h3⟩ := prs_pw h.2
    have hxy := h.1 y (by simp)
    have hy : ∀ z ∈ y :: l, y ≤ z := fun z hz => by
      rcases List.mem_cons.1 hz with rfl | hz
      · exact Int.le_refl _
      · have := (List.pairwise_cons.1 h.2).1 z hz; omega
    simp only [prs]
    refine ⟨List.pairwise_cons.2 ⟨fun b hb => hy _ (h2 b hb).2.1, h1⟩, fun s hs => ?_, fun s hs z hz => ?_⟩
    · rcases List.mem_cons.1 hs with rfl | hs
      · exact ⟨hxy, by simp, by simp⟩
      · have := h2 s hs
        exact ⟨this.1, List.mem_cons_of_mem _ this.2.1, List.mem_cons_of_mem _ this.2.2⟩
    · rcases List.mem_cons.1 hs with rfl | hs1
      · rcases List.mem_cons.1 hz with rfl | hz
        · exact .inl (Int.le_refl _)
        · exact .inr (hy z hz)
      · rcases List.mem_cons.1 hz with rfl | hz
        · left
          have := hy _ (h2 s hs1).2.1
          omega
        · exact h3 s hs1 z hz
section
variable {den den' : Int} {ps qs : List Pc} (hp : validB den ps = true) (hq : validB den' qs = true)
include hp hq
theorem starts_mem {x : Int} (hx : x ∈ startsR ps qs) : 0 ≤ x ∧ x ≤ 1000000000000 := by
  unfold startsR at hx
  rw [srtI_mem, List.mem_append, List.mem_map, List.mem_map] at hx
  rcases hx with ⟨p, h1, rfl⟩ | ⟨p, h1, rfl⟩
  · obtain ⟨i, hi⟩ := List.getElem?_of_mem h1
    have := valid_piece hp hi
    omega
  · obtain ⟨i, hi⟩ := List.getElem?_of_mem h1
    have := valid_piece hq hi
    omega
theorem all_asc : (startsR ps qs ++ [1000000000001]).Pairwise (· < ·) := by
  rw [List.pairwise_append]
  refine ⟨srtI_asc _, by simp, fun x hx y hy => ?_⟩
  have := starts_mem hp hq hx
  simp at hy
  omega
theorem sps_in {s : Sp} (hs : s ∈ spsR ps qs) : 0 ≤ s.1 ∧ s.1 ≤ 1000000000000 ∧ s.1 < s.2 ∧ s.2 ≤ 1000000000001 ∧ s.1 ∈ startsR ps qs ∧ (∀ p ∈ ps, p.frm ≤ s.1 ∨ s.2 ≤ p.frm) ∧ (∀ p ∈ qs, p.frm ≤ s.1 ∨ s.2 ≤ p.frm) := by
  obtain ⟨_, h2, h3⟩ := prs_pw (all_asc hp hq)
  obtain ⟨h4, h5, h6⟩ := h2 s hs
  have hx : s.1 ∈ startsR ps qs := by
    rcases List.mem_append.1 h5 with h | h
    · exact h
    · simp at h
      rcases List.mem_append.1 h6 with h' | h'
      · have := starts_mem hp hq h'; omega
      · simp at h'; omega
  have h7 : s.2 ≤ 1000000000001 := by
    rcases List.mem_append.1 h6 with h' | h'
    · have := starts_mem hp hq h'; omega
    · simp at h'; omega
  have h8 := starts_mem hp hq hx
  refine ⟨h8.1, h8.2, h4, h7, hx, fun p hpm => h3 s hs p.frm (List.mem_append.2 (.inl ?_)), fun p hpm => h3 s hs p.frm (List.mem_append.2 (.inl ?_))⟩
  · unfold startsR
    rw [srtI_mem, List.mem_append, List.mem_map]
    exact .inl ⟨p, hpm, rfl⟩
  · unfold startsR
    rw [srtI_mem, List.mem_append, List.mem_map, List.mem_map]
    exact .inr ⟨p, hpm, rfl⟩
omit hp hq in
end
/-- between two starts a function is a line -/
theorem lin {den : Int} {ps : List Pc} {s c : Int} (hp : validB den ps = true) (h0 : 0 ≤ s) (h1 : s ≤ c) (h2 : ∀ p ∈ ps, p.frm ≤ s ∨ c < p.frm) : pcAt ps c = pcAt ps s ∧ numAt ps c = numAt ps s + (pcAt ps s).slope * (c - s) := by
  obtain ⟨a1, a2, a3⟩ := pcAt_spec hp h0
  have e : pcAt ps c = pcAt ps s := by
    refine pcAt_mem (frm_asc hp) (List.mem_of_getElem? a1) (by omega) fun q hq => ?_
    rcases h2 q hq with h | h
    · left
      obtain ⟨j, hj⟩ := List.getElem?_of_mem hq
      rcases Nat.lt_trichotomy j (pix ps s) with h' | h' | h'
      · have := valid_incr hp h' hj a1; omega
      · subst h'; rw [a1] at hj; cases hj; exact Int.le_refl _
      · exfalso
        rcases Nat.lt_or_ge (pix ps s + 1) j with h3 | h3
        · obtain ⟨b, hb⟩ : ∃ b, ps[pix ps s + 1]? = some b := ⟨_, List.getElem?_eq_getElem (by have := (List.getElem?_eq_some_iff.1 hj).1; omega)⟩
          have := valid_incr hp h3 hb hj
          have := a3 b hb
          omega
        · have e : j = pix ps s + 1 := by omega
          subst e
          have := a3 q hj
          omega
    · exact .inr h
  refine ⟨e, ?_⟩
  unfold numAt
  rw [e, Int.add_assoc, ← Int.mul_add, show s - (pcAt ps s).frm + (c - s) = c - (pcAt ps s).frm by omega]
theorem made_len (den : Int) (l : List T3) : (madeM den l).length ≤ 30 ∧ (madeM den l).length ≤ max 1 l.length := by
  unfold madeM
  split
  · rw [List.length_singleton]
    omega
  · unfold pcsM
    rw [List.length_map, List.length_range]
    omega
/-- valid, of at most k pieces, values and slopes below n times those of Made -/
structure Sz (D n : Int) (k : Nat) (ps : List Pc) : Prop where
  v : validB D ps = true
  len : ps.length ≤ k
  bd : ∀ x, 0 ≤ x → x ≤ 1000000000000 → -3000000000000000 * n ≤ numAt ps x ∧ numAt ps x ≤ 3000000000000000 * n ∧ -2000 * n ≤ (pcAt ps x).slope ∧ (pcAt ps x).slope ≤ 2000 * n
end Go.Proofs.Ytnekeokgognegaa
