/-
  Plain: the values of sums, their validity.
  Conditions: those of each theorem.
-/
import Derived.Test.YtnekeokgognegaaU9
namespace Go.Proofs.Ytnekeokgognegaa
open Go.E2 Go.Wage
theorem pcAt_mem {l : List Pc} {p : Pc} {c : Int} (ha : (l.map Pc.frm).Pairwise (· < ·)) (hp : p ∈ l) (h1 : p.frm ≤ c) (h2 : ∀ q ∈ l, q.frm ≤ p.frm ∨ c < q.frm) : pcAt l c = p := by
  obtain ⟨i, hi⟩ := List.getElem?_of_mem hp
  obtain ⟨hlt, he⟩ := List.getElem?_eq_some_iff.1 hi
  have hm : ∀ {j k : Nat} {a b : Pc}, l[j]? = some a → l[k]? = some b → j < k → a.frm < b.frm := fun {j k a b} ha' hb' hjk => by
    obtain ⟨hj, e1⟩ := List.getElem?_eq_some_iff.1 ha'
    obtain ⟨hk, e2⟩ := List.getElem?_eq_some_iff.1 hb'
    have := List.pairwise_iff_getElem.1 ha j k (by simpa using hj) (by simpa using hk) hjk
    rw [List.getElem_map, List.getElem_map, e1, e2] at this
    exact this
  refine (pcAt_eq hi (fun j q hj hq => ?_) (fun q hq => ?_)).2
  · rcases Nat.lt_or_ge j i with h | h
    · have := hm hq hi h
      omega
    · have e : j = i := by omega
      subst e
      rw [hi] at hq
      cases hq
      exact h1
  · have := hm hi hq (by omega)
    rcases h2 q (List.mem_of_getElem? hq) with h | h
    · omega
    · exact h
theorem prs_pw : ∀ {l : List Int}, l.Pairwise (· < ·) → (prs l).Pairwise (fun a b => a.2 ≤ b.1) ∧ (∀ s ∈ prs l, s.1 < s.2 ∧ s.1 ∈ l ∧ s.2 ∈ l) ∧ (∀ s ∈ prs l, ∀ x ∈ l, x ≤ s.1 ∨ s.2 ≤ x)
  | [], _ => by simp [prs]
  | [x], _ => by simp [prs]
  | x :: y :: l, h => by
    have h' := h
    rw [List.pairwise_cons] at h
    obtain ⟨h1, h2, h3⟩ := prs_pw h.2
    have hxy := h.1 y (by simp)
    have hy : ∀ z ∈ y :: l, y ≤ z := fun z hz => by
      rcases List.mem_cons.1 hz with rfl | hz
      · exact Int.le_refl _
      · have := (List.pairwise_cons.1 h.2).1 z hz; omega
    simp only [prs]
    refine ⟨List.pairwise_cons.2 ⟨fun b hb => hy _ (h2 b hb).2.1, h1⟩, fun s hs => ?_, fun s hs z hz => ?_⟩
    · rcases List.mem_cons.1 hs with rfl | hs
      · exact ⟨hxy, by simp, by simp⟩
      · have := h2 s hs
        exact ⟨this.1, List.mem_cons_of_mem _ this.2.1, List.mem_cons_of_mem _ this.2.2⟩
    · rcases List.mem_cons.1 hs with rfl | hs1
      · rcases List.mem_cons.1 hz with rfl | hz
        · exact .inl (Int.le_refl _)
        · exact .inr (hy z hz)
      · rcases List.mem_cons.1 hz with rfl | hz
        · left
          have := hy _ (h2 s hs1).2.1
          omega
        · exact h3 s hs1 z hz
theorem prs_cover : ∀ {l : List Int} {x z c : Int}, l.head? = some x → l.getLast? = some z → x ≤ c → c < z → ∃ s ∈ prs l, s.1 ≤ c ∧ c < s.2
  | [], _, _, _, h, _, _, _ => by simp at h
  | [a], x, z, c, h, h', h1, h2 => by
    simp at h h'
    omega
  | a :: b :: l, x, z, c, h, h', h1, h2 => by
    simp at h
    subst h
    by_cases hb : c < b
    · exact ⟨(a, b), by simp [prs], h1, hb⟩
    · obtain ⟨s, hs, h3⟩ := prs_cover (l := b :: l) (x := b) (z := z) (c := c) rfl (by simpa [List.getLast?_cons_cons] using h') (by omega) h2
      exact ⟨s, by simp only [prs]; exact List.mem_cons_of_mem _ hs, h3⟩
section
variable {den den' : Int} {ps qs : List Pc} (hp : validB den ps = true) (hq : validB den' qs = true)
include hp hq
theorem starts_mem {x : Int} (hx : x ∈ startsR ps qs) : 0 ≤ x ∧ x ≤ 1000000000000 := by
  unfold startsR at hx
  rw [srtI_mem, List.mem_append, List.mem_map, List.mem_map] at hx
  rcases hx with ⟨p, h1, rfl⟩ | ⟨p, h1, rfl⟩
  · obtain ⟨i, hi⟩ := List.getElem?_of_mem h1
    have := valid_piece hp hi
    omega
  · obtain ⟨i, hi⟩ := List.getElem?_of_mem h1
    have := valid_piece hq hi
    omega
theorem starts_head : (startsR ps qs).head? = some 0 := by
  obtain ⟨p, h1, h2⟩ := valid_first hp
  have hm : (0 : Int) ∈ startsR ps qs := by
    unfold startsR
    rw [srtI_mem, List.mem_append, List.mem_map]
    exact .inl ⟨p, List.mem_of_getElem? h1, h2⟩
  have ha : (startsR ps qs).Pairwise (· < ·) := srtI_asc _
  have hb := fun x hx => starts_mem hp hq (x := x) hx
  generalize startsR ps qs = S at *
  cases S with
  | nil => simp at hm
  | cons a S =>
    rcases List.mem_cons.1 hm with h | h
    · simp [← h]
    · have := (List.pairwise_cons.1 ha).1 0 h
      have := hb a (by simp)
      omega
theorem all_asc : (startsR ps qs ++ [1000000000001]).Pairwise (· < ·) := by
  rw [List.pairwise_append]
  refine ⟨srtI_asc _, by simp, fun x hx y hy => ?_⟩
  have := starts_mem hp hq hx
  simp at hy
  omega
theorem sps_cover {c : Int} (h0 : 0 ≤ c) (h1 : c ≤ 1000000000000) : ∃ s ∈ spsR ps qs, s.1 ≤ c ∧ c < s.2 := by
  unfold spsR
  refine prs_cover (x := 0) (z := 1000000000001) ?_ (by simp) h0 (by omega)
  have := starts_head hp hq
  cases h : startsR ps qs with
  | nil => rw [h] at this; simp at this
  | cons a S => rw [h] at this; simpa using this
theorem sps_in {s : Sp} (hs : s ∈ spsR ps qs) : 0 ≤ s.1 ∧ s.1 ≤ 1000000000000 ∧ s.1 < s.2 ∧ s.2 ≤ 1000000000001 ∧ s.1 ∈ startsR ps qs ∧ (∀ p ∈ ps, p.frm ≤ s.1 ∨ s.2 ≤ p.frm) ∧ (∀ p ∈ qs, p.frm ≤ s.1 ∨ s.2 ≤ p.frm) := by
  obtain ⟨_, h2, h3⟩ := prs_pw (all_asc hp hq)
  obtain ⟨h4, h5, h6⟩ := h2 s hs
  have hx : s.1 ∈ startsR ps qs := by
    rcases List.mem_append.1 h5 with h | h
    · exact h
    · simp at h
      rcases List.mem_append.1 h6 with h' | h'
      · have := starts_mem hp hq h'; omega
      · simp at h'; omega
  have h7 : s.2 ≤ 1000000000001 := by
    rcases List.mem_append.1 h6 with h' | h'
    · have := starts_mem hp hq h'; omega
    · simp at h'; omega
  have h8 := starts_mem hp hq hx
  refine ⟨h8.1, h8.2, h4, h7, hx, fun p hpm => h3 s hs p.frm (List.mem_append.2 (.inl ?_)), fun p hpm => h3 s hs p.frm (List.mem_append.2 (.inl ?_))⟩
  · unfold startsR
    rw [srtI_mem, List.mem_append, List.mem_map]
    exact .inl ⟨p, hpm, rfl⟩
  · unfold startsR
    rw [srtI_mem, List.mem_append, List.mem_map, List.mem_map]
    exact .inr ⟨p, hpm, rfl⟩
omit hp hq in
end
/-- between two starts a function is a line -/
theorem lin {den : Int} {ps : List Pc} {s c : Int} (hp : validB den ps = true) (h0 : 0 ≤ s) (h1 : s ≤ c) (h2 : ∀ p ∈ ps, p.frm ≤ s ∨ c < p.frm) : pcAt ps c = pcAt ps s ∧ numAt ps c = numAt ps s + (pcAt ps s).slope * (c - s) := by
  obtain ⟨a1, a2, a3⟩ := pcAt_spec hp h0
  have e : pcAt ps c = pcAt ps s := by
    refine pcAt_mem (frm_asc hp) (List.mem_of_getElem? a1) (by omega) fun q hq => ?_
    rcases h2 q hq with h | h
    · left
      obtain ⟨j, hj⟩ := List.getElem?_of_mem hq
      rcases Nat.lt_trichotomy j (pix ps s) with h' | h' | h'
      · have := valid_incr hp h' hj a1; omega
      · subst h'; rw [a1] at hj; cases hj; exact Int.le_refl _
      · exfalso
        rcases Nat.lt_or_ge (pix ps s + 1) j with h3 | h3
        · obtain ⟨b, hb⟩ : ∃ b, ps[pix ps s + 1]? = some b := ⟨_, List.getElem?_eq_getElem (by have := (List.getElem?_eq_some_iff.1 hj).1; omega)⟩
          have := valid_incr hp h3 hb hj
          have := a3 b hb
          omega
        · have e : j = pix ps s + 1 := by omega
          subst e
          have := a3 q hj
          omega
    · exact .inr h
  refine ⟨e, ?_⟩
  unfold numAt
  rw [e, Int.add_assoc, ← Int.mul_add, show s - (pcAt ps s).frm + (c - s) = c - (pcAt ps s).frm by omega]
theorem sum_asc {ps qs : List Pc} : ((sumPs ps qs).map Pc.frm).Pairwise (· < ·) := by
  have : (sumPs ps qs).map Pc.frm = startsR ps qs := by
    unfold sumPs
    rw [List.map_map]
    exact (List.map_congr_left fun x _ => rfl).trans (List.map_id _)
  rw [this]
  exact srtI_asc _
theorem sum_pc {den den' : Int} {ps qs : List Pc} {c : Int} (hp : validB den ps = true) (hq : validB den' qs = true) (h0 : 0 ≤ c) (h1 : c ≤ 1000000000000) : ∃ s, 0 ≤ s ∧ s ≤ 1000000000000 ∧ pcAt (sumPs ps qs) c = sumP ps qs s := by
  obtain ⟨s, hs, h2, h3⟩ := sps_cover hp hq h0 h1
  obtain ⟨a1, a2, a3, a4, a5, a6, a7⟩ := sps_in hp hq hs
  have hall : ∀ x ∈ startsR ps qs, x ≤ s.1 ∨ s.2 ≤ x := fun x hx => (prs_pw (all_asc hp hq)).2.2 s hs x (List.mem_append.2 (.inl hx))
  refine ⟨s.1, a1, a2, pcAt_mem sum_asc (List.mem_map.2 ⟨s.1, a5, rfl⟩) h2 fun q hqm => ?_⟩
  obtain ⟨x, hx, rfl⟩ := List.mem_map.1 hqm
  rcases hall x hx with h | h
  · exact .inl h
  · right
    show c < x
    omega
theorem sum_num {den den' : Int} {ps qs : List Pc} {c : Int} (hp : validB den ps = true) (hq : validB den' qs = true) (h0 : 0 ≤ c) (h1 : c ≤ 1000000000000) : numAt (sumPs ps qs) c = numAt ps c + numAt qs c := by
  obtain ⟨s, hs, h2, h3⟩ := sps_cover hp hq h0 h1
  obtain ⟨a1, a2, a3, a4, a5, a6, a7⟩ := sps_in hp hq hs
  have hall : ∀ x ∈ startsR ps qs, x ≤ s.1 ∨ s.2 ≤ x := fun x hx => (prs_pw (all_asc hp hq)).2.2 s hs x (List.mem_append.2 (.inl hx))
  have e : pcAt (sumPs ps qs) c = sumP ps qs s.1 := by
    refine pcAt_mem sum_asc (List.mem_map.2 ⟨s.1, a5, rfl⟩) h2 fun q hqm => ?_
    obtain ⟨x, hx, rfl⟩ := List.mem_map.1 hqm
    rcases hall x hx with h | h
    · exact .inl h
    · right
      show c < x
      omega
  have l1 := (lin hp a1 h2 fun p h => by rcases a6 p h with h | h <;> omega).2
  have l2 := (lin hq a1 h2 fun p h => by rcases a7 p h with h | h <;> omega).2
  unfold numAt at l1 l2 ⊢
  rw [e]
  simp only [sumP, numAt] at l1 l2 ⊢
  rw [l1, l2, Int.add_mul]
  omega
theorem valid_of {D : Int} {l : List Pc} (h1 : 1 ≤ D ∧ D ≤ 1000000) (h2 : l.length ≤ 64) (h3 : ∃ p, l[0]? = some p ∧ p.frm = 0) (h4 : (l.map Pc.frm).Pairwise (· < ·))
    (h5 : ∀ p ∈ l, p.frm ≤ 1000000000000 ∧ -1000000 ≤ p.slope ∧ p.slope ≤ 1000000 ∧ -1000000000000000000 ≤ p.at_ ∧ p.at_ ≤ 1000000000000000000) : validB D l = true := by
  obtain ⟨p0, e0, f0⟩ := h3
  have hl := (List.getElem?_eq_some_iff.1 e0).1
  unfold validB
  simp only [Bool.and_eq_true, decide_eq_true_eq, List.all_eq_true, List.mem_range]
  refine ⟨⟨⟨⟨by omega, by omega⟩, by omega⟩, by omega⟩, fun i hi => ?_⟩
  obtain ⟨p, hp⟩ : ∃ p, l[i]? = some p := ⟨_, List.getElem?_eq_getElem hi⟩
  have hb := h5 p (List.mem_of_getElem? hp)
  unfold okI
  rw [hp]
  dsimp only
  have hrest : (decide (-1000000 ≤ p.slope) && decide (p.slope ≤ 1000000) && decide (-1000000000000000000 ≤ p.at_) && decide (p.at_ ≤ 1000000000000000000)) = true := by
    simp only [Bool.and_eq_true, decide_eq_true_eq]
    omega
  rw [hrest, Bool.and_true]
  cases i with
  | zero =>
    rw [if_pos rfl]
    rw [hp] at e0
    cases e0
    simp [f0]
  | succ i =>
    obtain ⟨q, hq⟩ : ∃ p, l[i]? = some p := ⟨_, List.getElem?_eq_getElem (by omega)⟩
    rw [if_neg (by omega), show i + 1 - 1 = i by omega, hq]
    dsimp only
    have := List.pairwise_iff_getElem.1 h4 i (i + 1) (by simpa using (by omega : i < l.length)) (by simpa using hi) (by omega)
    rw [List.getElem_map, List.getElem_map, (List.getElem?_eq_some_iff.1 hp).2, (List.getElem?_eq_some_iff.1 hq).2] at this
    simp only [Bool.and_eq_true, decide_eq_true_eq]
    omega
theorem made_bd (den : Int) (l : List T3) : ∀ p ∈ madeM den l, -2000 ≤ p.slope ∧ p.slope ≤ 2000 ∧ -1000000000 ≤ p.at_ ∧ p.at_ ≤ 1000001000 := by
  intro p hp
  have hD := denM_bd den
  unfold madeM at hp
  split at hp
  · simp at hp
    subst hp
    simp
  · unfold pcsM at hp
    rw [List.mem_map] at hp
    obtain ⟨i, _, rfl⟩ := hp
    have ha := atM_bd (b := (l.getD i default).2.1) hD
    have hs := pickR_bd (l.getD i default).2.2 (n := 4001) (by omega)
    simp only [pcM]
    omega
theorem made_len (den : Int) (l : List T3) : (madeM den l).length ≤ 30 ∧ (madeM den l).length ≤ max 1 l.length := by
  unfold madeM
  split
  · rw [List.length_singleton]
    omega
  · unfold pcsM
    rw [List.length_map, List.length_range]
    omega
/-- valid, of at most k pieces, values and slopes below n times those of Made -/
structure Sz (D n : Int) (k : Nat) (ps : List Pc) : Prop where
  v : validB D ps = true
  len : ps.length ≤ k
  bd : ∀ x, 0 ≤ x → x ≤ 1000000000000 → -3000000000000000 * n ≤ numAt ps x ∧ numAt ps x ≤ 3000000000000000 * n ∧ -2000 * n ≤ (pcAt ps x).slope ∧ (pcAt ps x).slope ≤ 2000 * n
theorem made_sz (den : Int) (l : List T3) {k : Nat} (hk : (madeM den l).length ≤ k) : Sz (denM den) 1 k (madeM den l) := by
  have hv := madeM_valid den l
  refine ⟨hv, hk, fun x hx hx' => ?_⟩
  obtain ⟨a1, a2, a3⟩ := pcAt_spec hv hx
  have hb := made_bd den l _ (List.mem_of_getElem? a1)
  have hf := valid_piece hv a1
  have := mul_bd (pcAt (madeM den l) x).slope (x - (pcAt (madeM den l) x).frm) 2000 1000000000000 (by omega) (by omega) (by omega) (by omega) (by omega)
  unfold numAt
  omega
theorem Sz.sum {D n m : Int} {k j : Nat} {ps qs : List Pc} (h1 : Sz D n k ps) (h2 : Sz D m j qs) (hn : n + m ≤ 100) (hk : k + j ≤ 64) : Sz D (n + m) (k + j) (sumPs ps qs) := by
  have hp := h1.v
  have hq := h2.v
  have hh := starts_head hp hq
  have hlen := starts_len (ps := ps) (qs := qs)
  have l1 := h1.len
  have l2 := h2.len
  have hD := valid_parts hp
  have hsl : (sumPs ps qs).length ≤ k + j := by unfold sumPs; rw [List.length_map]; omega
  refine ⟨valid_of (by omega) (by omega) ?_ sum_asc fun p hpm => ?_, hsl, fun x hx hx' => ?_⟩
  · refine ⟨sumP ps qs 0, ?_, rfl⟩
    unfold sumPs
    rw [List.getElem?_map, ← List.head?_eq_getElem?, hh]
    rfl
  · obtain ⟨x, hx, rfl⟩ := List.mem_map.1 hpm
    have hb := starts_mem hp hq hx
    have b1 := h1.bd x hb.1 hb.2
    have b2 := h2.bd x hb.1 hb.2
    simp only [sumP]
    omega
  · have b1 := h1.bd x hx hx'
    have b2 := h2.bd x hx hx'
    rw [sum_num hp hq hx hx']
    obtain ⟨s, s1, s2, e⟩ := sum_pc hp hq hx hx'
    have b3 := h1.bd s s1 s2
    have b4 := h2.bd s s1 s2
    rw [e]
    simp only [sumP]
    omega
theorem starts_comm {den den' : Int} {ps qs : List Pc} (_hp : validB den ps = true) (_hq : validB den' qs = true) : startsR qs ps = startsR ps qs := by
  refine asc_uniq (srtI_asc _) (srtI_asc _) fun x => ?_
  unfold startsR
  rw [srtI_mem, srtI_mem, List.mem_append, List.mem_append, or_comm]
theorem sum_comm {den den' : Int} {ps qs : List Pc} (hp : validB den ps = true) (hq : validB den' qs = true) : sumPs qs ps = sumPs ps qs := by
  unfold sumPs
  rw [starts_comm hp hq]
  refine List.map_congr_left fun x _ => ?_
  unfold sumP
  rw [Int.add_comm, Int.add_comm (pcAt qs x).slope]
theorem chk_ok {D : Int} {l : List Pc} (h : validB D l = true) : chkR D l = ((D, l), 0) := by
  unfold chkR
  rw [if_neg (by have := valid_parts h; omega), if_pos h]
theorem add_val {D : Int} {ps qs : List Pc} (hp : validB D ps = true) (hq : validB D qs = true) (h : validB D (sumPs ps qs) = true) : FnA Try.prog 11 [fav D ps, fav D qs] (.tup [fav D (sumPs ps qs), I 0]) := by
  have c := pAdd_ok D ps qs hp hq
  rw [chk_ok h] at c
  exact c
theorem eval_val {D c : Int} {ps : List Pc} (hv : validB D ps = true) (h0 : 0 ≤ c) (h1 : c ≤ 1000000000000) : FnA Try.prog 22 [fav D ps, I c] (.tup [I (numAt ps c), I D, I 0]) := by
  have d := pEval_ok D c ps (by have := valid_parts hv; omega)
  rw [show evalR D ps c = (numAt ps c, D, 0) from if_pos ⟨hv, by unfold argB; rw [decide_eq_true h0, decide_eq_true h1]; rfl⟩] at d
  exact d
end Go.Proofs.Ytnekeokgognegaa
