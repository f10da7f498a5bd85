/-
  Plain: what piecewise.Where finds is where the value lies between the limits.
  Conditions: those of each theorem.
-/
import Derived.Test.YtnekeokgognegaaU9
namespace Go.Proofs.Ytnekeokgognegaa
open Go.E2 Go.Wage
theorem prs_cover {m c : Int} (hm : c < m) : ∀ {l : List Int} {a : Int}, a ≤ c → ∃ s ∈ prs (a :: (l ++ [m])), s.1 ≤ c ∧ c < s.2
  | [], a, h => ⟨(a, m), by simp [prs], h, hm⟩
  | b :: l, a, h => by
    by_cases hb : c < b
    · exact ⟨(a, b), by simp [prs], h, hb⟩
    · obtain ⟨s, hs, h2⟩ := prs_cover hm (l := l) (a := b) (by omega)
      refine ⟨s, ?_, h2⟩
      simp only [List.cons_append, prs]
      exact List.mem_cons_of_mem _ hs
theorem str_cover {den c : Int} {ps : List Pc} (hp : validB den ps = true) (hc : 0 ≤ c ∧ c ≤ 1000000000000) : ∃ s ∈ spsR ps [], s.1 ≤ c ∧ c < s.2 := by
  have h0 := pcAt_spec hp (Int.le_refl 0)
  have hm : (pcAt ps 0).frm ∈ startsR ps [] := by
    unfold startsR
    rw [srtI_mem, List.mem_append, List.mem_map]
    exact .inl ⟨_, List.mem_of_getElem? h0.1, rfl⟩
  have hasc := srtI_asc (ps.map Pc.frm ++ ([] : List Pc).map Pc.frm)
  unfold spsR
  change (startsR ps []).Pairwise (· < ·) at hasc
  cases hS : startsR ps [] with
  | nil => rw [hS] at hm; simp at hm
  | cons a l =>
    rw [hS] at hm hasc
    rw [List.pairwise_cons] at hasc
    have ha : a ≤ c := by
      rcases List.mem_cons.1 hm with e | e
      · omega
      · have := hasc.1 _ e; omega
    exact prs_cover (by omega) ha
theorem pcAt_str {den c : Int} {ps : List Pc} (hp : validB den ps = true) {k : Nat} {s : Sp} (hs : (spsR ps [])[k]? = some s) (h1 : s.1 ≤ c) (h2 : c < s.2) : pcAt ps c = pcAt ps s.1 := by
  have hb := sps_bd (den' := den) hp (.inl rfl) hs
  have h0 := pcAt_spec hp hb.1
  refine (pcAt_eq h0.1 (fun j q hj hq => ?_) (fun q hq => ?_)).2
  · by_cases e : j = pix ps s.1
    · subst e
      rw [h0.1] at hq
      cases hq
      omega
    · have := valid_incr hp (show j < pix ps s.1 by omega) hq h0.1
      omega
  · have hgt := h0.2.2 q hq
    obtain ⟨g1, g2, g3⟩ := prs_inv hs
    have hqm : q.frm ∈ startsR ps [] := by
      unfold startsR
      rw [srtI_mem, List.mem_append, List.mem_map]
      exact .inl ⟨_, List.mem_of_getElem? hq, rfl⟩
    obtain ⟨m, hm⟩ := List.getElem?_of_mem hqm
    have hml := (List.getElem?_eq_some_iff.1 hm).1
    have hasc : (startsR ps []).Pairwise (· < ·) := srtI_asc _
    rw [List.length_append, List.length_singleton] at g3
    rw [List.getElem?_append_left (by omega)] at g1
    by_cases hk : k + 1 < (startsR ps []).length
    · rw [List.getElem?_append_left hk] at g2
      obtain ⟨_, e1⟩ := List.getElem?_eq_some_iff.1 g1
      obtain ⟨_, e2⟩ := List.getElem?_eq_some_iff.1 g2
      obtain ⟨_, e3⟩ := List.getElem?_eq_some_iff.1 hm
      have P := List.pairwise_iff_getElem.1 hasc
      by_cases hmk : m ≤ k
      · by_cases e : m = k
        · subst e; omega
        · have := P m k hml (by omega) (by omega); omega
      · by_cases e : m = k + 1
        · subst e; omega
        · have := P (k + 1) m hk hml (by omega); omega
    · obtain ⟨_, e1⟩ := List.getElem?_eq_some_iff.1 g1
      obtain ⟨_, e3⟩ := List.getElem?_eq_some_iff.1 hm
      have P := List.pairwise_iff_getElem.1 hasc
      by_cases e : m = k
      · subst e; omega
      · have := P m k hml (by omega) (by omega); omega
theorem num_str {den c : Int} {ps : List Pc} (hp : validB den ps = true) {k : Nat} {s : Sp} (hs : (spsR ps [])[k]? = some s) (h1 : s.1 ≤ c) (h2 : c < s.2) : numAt ps c = numAt ps s.1 + (pcAt ps s.1).slope * (c - s.1) := by
  unfold numAt
  rw [pcAt_str hp hs h1 h2, show c - (pcAt ps s.1).frm = (s.1 - (pcAt ps s.1).frm) + (c - s.1) by omega, Int.mul_add]
  omega
theorem steps_iff {start slope low high z : Int} (hz : 0 ≤ z ∧ z ≤ 1000000000000) : (stepsR start slope low high).1 ≤ z ∧ z ≤ (stepsR start slope low high).2 ↔ low ≤ start + slope * z ∧ start + slope * z ≤ high := by
  unfold stepsR
  split
  · rename_i h
    have a1 := Int.le_ediv_iff_mul_le (a := -z) (b := start - low) h
    have a2 := Int.le_ediv_iff_mul_le (a := z) (b := high - start) h
    rw [Int.neg_mul, Int.mul_comm z] at a1
    rw [Int.mul_comm z] at a2
    dsimp only
    omega
  · split
    · rename_i h
      have a1 := Int.le_ediv_iff_mul_le (a := -z) (b := high - start) (c := -slope) (by omega)
      have a2 := Int.le_ediv_iff_mul_le (a := z) (b := start - low) (c := -slope) (by omega)
      rw [Int.neg_mul, Int.mul_neg, Int.neg_neg, Int.mul_comm z] at a1
      rw [Int.mul_neg, Int.mul_comm z] at a2
      dsimp only
      omega
    · have : slope = 0 := by omega
      subst this
      rw [Int.zero_mul]
      split <;> dsimp only <;> omega
theorem wsp_in {den low high c : Int} {ps : List Pc} (hp : validB den ps = true) {k : Nat} {s : Sp} (hs : (spsR ps [])[k]? = some s) (h1 : s.1 ≤ c) (h2 : c < s.2) : inS (wsp den low high ps s) c ↔ low * den ≤ numAt ps c ∧ numAt ps c ≤ high * den := by
  have hb := sps_bd (den' := den) hp (.inl rfl) hs
  have hi := steps_iff (start := numAt ps s.1) (slope := (pcAt ps s.1).slope) (low := low * den) (high := high * den) (z := c - s.1) (by omega)
  rw [num_str hp hs h1 h2, ← hi]
  unfold wsp
  generalize stepsR (numAt ps s.1) (pcAt ps s.1).slope (low * den) (high * den) = r
  split
  · unfold inS
    simp only [List.mem_singleton, exists_eq_left]
    omega
  · rename_i hn
    constructor
    · rintro ⟨_, h, _⟩; simp at h
    · intro h; omega
theorem wsp_bd {den low high : Int} {ps : List Pc} {s t : Sp} (ht : t ∈ wsp den low high ps s) : s.1 ≤ t.1 ∧ t.1 < t.2 ∧ t.2 ≤ s.2 := by
  unfold wsp at ht
  split at ht
  · rw [List.mem_singleton] at ht
    subst ht
    dsimp only
    omega
  · simp at ht
theorem fnd_mem {den low high : Int} {ps : List Pc} {t : Sp} : t ∈ fndR den low high ps (spsR ps []).length ↔ ∃ s ∈ spsR ps [], t ∈ wsp den low high ps s := by
  unfold fndR
  rw [List.take_length, List.mem_flatMap]
theorem fnd_in {den low high c : Int} {ps : List Pc} (hp : validB den ps = true) (hc : 0 ≤ c ∧ c ≤ 1000000000000) : inS (fndR den low high ps (spsR ps []).length) c ↔ low * den ≤ numAt ps c ∧ numAt ps c ≤ high * den := by
  constructor
  · rintro ⟨t, ht, h1, h2⟩
    obtain ⟨s, hs, hts⟩ := fnd_mem.1 ht
    obtain ⟨k, hk⟩ := List.getElem?_of_mem hs
    have hb := wsp_bd hts
    exact (wsp_in hp hk (by omega) (by omega)).1 ⟨t, hts, h1, h2⟩
  · intro h
    obtain ⟨s, hs, h1, h2⟩ := str_cover hp hc
    obtain ⟨k, hk⟩ := List.getElem?_of_mem hs
    obtain ⟨t, ht, h3⟩ := (wsp_in (low := low) (high := high) hp hk h1 h2).2 h
    exact ⟨t, fnd_mem.2 ⟨s, hs, ht⟩, h3⟩
theorem fnd_bd {den low high : Int} {ps : List Pc} (hp : validB den ps = true) {t : Sp} (ht : t ∈ fndR den low high ps (spsR ps []).length) : 0 ≤ t.1 ∧ t.1 < t.2 ∧ t.2 ≤ 1000000000001 := by
  obtain ⟨s, hs, hts⟩ := fnd_mem.1 ht
  obtain ⟨k, hk⟩ := List.getElem?_of_mem hs
  have hb := wsp_bd hts
  have := sps_bd (den' := den) hp (.inl rfl) hk
  omega
theorem fnd_none {den high : Int} {ps : List Pc} (hp : validB den ps = true) (hd : 1 ≤ den) : fndR den (high + 1) high ps (spsR ps []).length = [] := by
  rw [List.eq_nil_iff_forall_not_mem]
  intro t ht
  have hb := fnd_bd hp ht
  have h := (fnd_in (c := t.1) hp (by omega)).1 ⟨t, ht, Int.le_refl _, hb.2.1⟩
  rw [Int.add_mul] at h
  omega
theorem ins_len : ∀ (l : List Sp) (a b : Int), (ins a b l).length ≤ l.length + 1
  | [], a, b => by simp [ins]
  | s :: l, a, b => by
    unfold ins
    have h1 := ins_len l a b
    have h2 := fun c d => ins_len l c d
    repeat' split
    all_goals (try simp only [List.length_cons])
    all_goals first | omega | (have := h2 (min a s.1) (max b s.2); omega)
theorem nrm_len : ∀ l : List Sp, (nrm l).length ≤ l.length
  | [] => Nat.le_refl _
  | s :: l => by
    unfold nrm
    have := nrm_len l
    split
    · have := ins_len (nrm l) s.1 s.2
      simp only [List.length_cons]; omega
    · simp only [List.length_cons]; omega
theorem VF_mem {s : Sp} : ∀ {l : List Sp} {lb : Int}, VF lb l → s ∈ l → lb < s.1 ∧ s.1 < s.2
  | q :: l, lb, ⟨h1, h2, h3⟩, hs => by
    rcases List.mem_cons.1 hs with rfl | hs
    · exact ⟨h1, h2⟩
    · have := VF_mem h3 hs
      omega
theorem VF_gap : ∀ {l : List Sp} {lb : Int} {i : Nat}, VF lb l → i + 1 < l.length → (l.getD i default).2 < (l.getD (i + 1) default).1
  | s :: t :: l, lb, 0, ⟨_, _, h3⟩, _ => h3.1
  | s :: l, lb, i + 1, ⟨_, _, h3⟩, h => by
    have := VF_gap (i := i) h3 (by simpa using h)
    simpa using this
  | [_], _, 0, _, h => by simp at h
/-- what the law asks of Where -/
structure WOk (den low high : Int) (ps : List Pc) (W : List Sp) : Prop where
  len : W.length ≤ 64
  bd : ∀ i, i < W.length → 0 ≤ (W.getD i default).1 ∧ (W.getD i default).1 < (W.getD i default).2 ∧ (W.getD i default).2 ≤ 1000000000001
  gap : ∀ i, i + 1 < W.length → (W.getD i default).2 < (W.getD (i + 1) default).1
  has : ∀ c, 0 ≤ c → c ≤ 1000000000000 → hasS W c = (decide (low * den ≤ numAt ps c) && decide (numAt ps c ≤ high * den))
theorem wOk {den low high : Int} {ps : List Pc} (hp : validB den ps = true) : WOk den low high ps (nrm (fndR den low high ps (spsR ps []).length)) := by
  have h1 := valid_parts hp
  have hfl := fnd_len (den := den) (low := low) (high := high) (ps := ps) (spsR ps []).length
  have hsl := sps_len ps []
  have hSl := starts_len (ps := ps) (qs := [])
  rw [List.length_nil] at hSl
  have hnl := nrm_len (fndR den low high ps (spsR ps []).length)
  have hfb := fun t ht => fnd_bd (low := low) (high := high) (t := t) hp ht
  have hfi := fun c hc => fnd_in (low := low) (high := high) (c := c) hp hc
  generalize fndR den low high ps (spsR ps []).length = A at *
  obtain ⟨v1, v2⟩ := nrm_spec A
  have hfp : A.filter prp = A := by
    rw [List.filter_eq_self]
    intro t ht
    have := hfb t ht
    unfold prp
    simp only [Bool.and_eq_true, decide_eq_true_eq]
    omega
  rw [hfp] at v2
  have hmem : ∀ s ∈ nrm A, 0 ≤ s.1 ∧ s.1 < s.2 ∧ s.2 ≤ 1000000000001 := by
    intro s hs
    have hlt := (VF_mem v1 hs).2
    obtain ⟨t, ht, g1, g2⟩ := (v2 s.1).1 ⟨s, hs, Int.le_refl _, hlt⟩
    obtain ⟨u, hu, g3, g4⟩ := (v2 (s.2 - 1)).1 ⟨s, hs, by omega, by omega⟩
    have b1 := hfb t ht
    have b2 := hfb u hu
    omega
  refine ⟨by omega, fun i hi => ?_, fun i hi => VF_gap v1 hi, fun c hc hc' => ?_⟩
  · rw [List.getD_eq_getElem?_getD, List.getElem?_eq_getElem hi]
    exact hmem _ (List.getElem_mem hi)
  · rw [Bool.eq_iff_iff, Bool.and_eq_true, decide_eq_true_eq, decide_eq_true_eq, ← hfi c ⟨hc, hc'⟩, ← v2]
    unfold hasS
    rw [List.any_eq_true]
    constructor
    · rintro ⟨s, hs, h⟩
      unfold has1 at h
      simp only [Bool.and_eq_true, decide_eq_true_eq] at h
      exact ⟨s, hs, h.1.2, h.2⟩
    · rintro ⟨s, hs, g1, g2⟩
      refine ⟨s, hs, ?_⟩
      have := hmem s hs
      unfold has1 prp
      simp only [Bool.and_eq_true, decide_eq_true_eq]
      omega
theorem nrm_nil : nrm [] = [] := rfl
end Go.Proofs.Ytnekeokgognegaa
