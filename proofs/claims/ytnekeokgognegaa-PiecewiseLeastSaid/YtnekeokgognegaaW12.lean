/-
  Plain: the lesser function, validity of sums and of the lesser function, bounds of Made.
  Conditions: those of each theorem.
-/
import Derived.Test.YtnekeokgognegaaW11
import Derived.Test.YtnekeokgognegaaPJ
namespace Go.Proofs.Ytnekeokgognegaa
open Go.E2 Go.Wage
/-- what a stretch holds: the function f (value l, slope sl) below, g (value h, slope ot) above at its start -/
theorem ls4_spec {l sl h ot : Int} {s : Sp} (hs : s.1 < s.2) (h0 : l ≤ h) (_h1 : l = h → sl ≤ ot) :
    (∃ p ∈ ls4 l sl h ot s, p.frm = s.1) ∧ ((ls4 l sl h ot s).map Pc.frm).Pairwise (· < ·) ∧
    (∀ p ∈ ls4 l sl h ot s, s.1 ≤ p.frm ∧ p.frm < s.2 ∧ ((p.at_ = l + sl * (p.frm - s.1) ∧ p.slope = sl) ∨ (p.at_ = h + ot * (p.frm - s.1) ∧ p.slope = ot))) ∧
    (∀ c, s.1 ≤ c → c < s.2 → ∃ p ∈ ls4 l sl h ot s, p.frm ≤ c ∧ (∀ q ∈ ls4 l sl h ot s, q.frm ≤ p.frm ∨ c < q.frm) ∧ p.at_ + p.slope * (c - p.frm) = min (l + sl * (c - s.1)) (h + ot * (c - s.1))) := by
  have one : (ls4 l sl h ot s = [⟨s.1, l, sl⟩]) → (∀ c, s.1 ≤ c → c < s.2 → l + sl * (c - s.1) ≤ h + ot * (c - s.1)) →
      (∃ p ∈ ls4 l sl h ot s, p.frm = s.1) ∧ ((ls4 l sl h ot s).map Pc.frm).Pairwise (· < ·) ∧
      (∀ p ∈ ls4 l sl h ot s, s.1 ≤ p.frm ∧ p.frm < s.2 ∧ ((p.at_ = l + sl * (p.frm - s.1) ∧ p.slope = sl) ∨ (p.at_ = h + ot * (p.frm - s.1) ∧ p.slope = ot))) ∧
      (∀ c, s.1 ≤ c → c < s.2 → ∃ p ∈ ls4 l sl h ot s, p.frm ≤ c ∧ (∀ q ∈ ls4 l sl h ot s, q.frm ≤ p.frm ∨ c < q.frm) ∧ p.at_ + p.slope * (c - p.frm) = min (l + sl * (c - s.1)) (h + ot * (c - s.1))) := by
    intro e hle
    rw [e]
    refine ⟨⟨⟨s.1, l, sl⟩, by simp, rfl⟩, by simp, fun p hp => ?_, fun c c1 c2 => ⟨_, List.mem_singleton.2 rfl, c1, fun q hq => ?_, ?_⟩⟩
    · simp at hp
      subst hp
      exact ⟨Int.le_refl _, hs, .inl ⟨by simp, rfl⟩⟩
    · simp at hq
      subst hq
      exact .inl (Int.le_refl _)
    · exact (Int.min_eq_left (hle c c1 c2)).symm
  by_cases hso : sl ≤ ot
  · refine one (by unfold ls4; rw [if_pos hso]) fun c c1 c2 => ?_
    have := Int.mul_le_mul_of_nonneg_right hso (show 0 ≤ c - s.1 by omega)
    omega
  · have hpos : 0 < sl - ot := by omega
    have hq0 : 0 ≤ (h - l) / (sl - ot) := Int.ediv_nonneg (by omega) (by omega)
    have hlow : ∀ d, 0 ≤ d → d ≤ (h - l) / (sl - ot) → l + sl * d ≤ h + ot * d := fun d d0 d1 => by
      have := (le_div (a := h - l) (k := sl - ot) (d := d) hpos).1 d1
      rw [Int.sub_mul] at this
      omega
    have hhigh : ∀ d, (h - l) / (sl - ot) < d → h + ot * d ≤ l + sl * d := fun d d1 => by
      have : ¬ (sl - ot) * d ≤ h - l := fun hh => by
        have := (le_div (a := h - l) (k := sl - ot) (d := d) hpos).2 hh
        omega
      rw [Int.sub_mul] at this
      omega
    by_cases hlt : (h - l) / (sl - ot) + 1 < s.2 - s.1
    · have e : ls4 l sl h ot s = [⟨s.1, l, sl⟩, ⟨s.1 + ((h - l) / (sl - ot) + 1), h + ot * ((h - l) / (sl - ot) + 1), ot⟩] := by
        unfold ls4
        rw [if_neg hso, if_pos hlt]
      rw [e]
      clear e one
      generalize (h - l) / (sl - ot) = z at *
      refine ⟨⟨⟨s.1, l, sl⟩, by simp, rfl⟩, by simp; omega, fun p hp => ?_, fun c c1 c2 => ?_⟩
      · rcases List.mem_cons.1 hp with rfl | hp
        · exact ⟨Int.le_refl _, hs, .inl ⟨by simp, rfl⟩⟩
        · simp at hp
          subst hp
          refine ⟨by simp only; omega, by simp only; omega, .inr ⟨?_, rfl⟩⟩
          simp only
          rw [show s.1 + (z + 1) - s.1 = z + 1 by omega]
      · by_cases hc : c - s.1 ≤ z
        · refine ⟨_, List.mem_cons_self .., c1, fun q hq => ?_, ?_⟩
          · rcases List.mem_cons.1 hq with rfl | hq
            · exact .inl (Int.le_refl _)
            · simp at hq
              subst hq
              right
              simp only
              omega
          · exact (Int.min_eq_left (hlow _ (by omega) hc)).symm
        · refine ⟨⟨s.1 + (z + 1), h + ot * (z + 1), ot⟩, by simp, by simp only; omega, fun q hq => ?_, ?_⟩
          · left
            rcases List.mem_cons.1 hq with rfl | hq
            · simp only; omega
            · simp at hq
              subst hq
              exact Int.le_refl _
          · rw [Int.min_eq_right (hhigh _ (by omega))]
            simp only
            rw [Int.add_assoc, ← Int.mul_add]
            congr 2
            omega
    · refine one (by unfold ls4; rw [if_neg hso, if_neg hlt]) fun c c1 c2 => hlow _ (by omega) (by omega)
section
variable {den den' : Int} {ps qs : List Pc} (hp : validB den ps = true) (hq : validB den' qs = true)
include hp hq
theorem ls1_spec {s : Sp} (hs : s ∈ spsR ps qs) :
    (∃ p ∈ ls1 ps qs s, p.frm = s.1) ∧ ((ls1 ps qs s).map Pc.frm).Pairwise (· < ·) ∧
    (∀ p ∈ ls1 ps qs s, s.1 ≤ p.frm ∧ p.frm < s.2 ∧ ((p.at_ = numAt ps p.frm ∧ p.slope = (pcAt ps p.frm).slope) ∨ (p.at_ = numAt qs p.frm ∧ p.slope = (pcAt qs p.frm).slope))) ∧
    (∀ c, s.1 ≤ c → c < s.2 → ∃ p ∈ ls1 ps qs s, p.frm ≤ c ∧ (∀ q ∈ ls1 ps qs s, q.frm ≤ p.frm ∨ c < q.frm) ∧ p.at_ + p.slope * (c - p.frm) = min (numAt ps c) (numAt qs c)) := by
  obtain ⟨a1, a2, a3, a4, a5, a6, a7⟩ := sps_in hp hq hs
  have l1 : ∀ c, s.1 ≤ c → c < s.2 → pcAt ps c = pcAt ps s.1 ∧ numAt ps c = numAt ps s.1 + (pcAt ps s.1).slope * (c - s.1) := fun c c1 c2 => lin hp a1 c1 fun p h => by rcases a6 p h with h | h <;> omega
  have l2 : ∀ c, s.1 ≤ c → c < s.2 → pcAt qs c = pcAt qs s.1 ∧ numAt qs c = numAt qs s.1 + (pcAt qs s.1).slope * (c - s.1) := fun c c1 c2 => lin hq a1 c1 fun p h => by rcases a7 p h with h | h <;> omega
  unfold ls1
  split
  · rename_i hc
    obtain ⟨b1, b2, b3, b4⟩ := ls4_spec (l := numAt qs s.1) (sl := (pcAt qs s.1).slope) (h := numAt ps s.1) (ot := (pcAt ps s.1).slope) a3 (by omega) (by omega)
    refine ⟨b1, b2, fun p hpm => ?_, fun c c1 c2 => ?_⟩
    · obtain ⟨d1, d2, d3⟩ := b3 p hpm
      refine ⟨d1, d2, ?_⟩
      rw [(l1 _ d1 d2).1, (l2 _ d1 d2).1, (l1 _ d1 d2).2, (l2 _ d1 d2).2]
      exact d3.symm
    · obtain ⟨p, d1, d2, d3, d4⟩ := b4 c c1 c2
      refine ⟨p, d1, d2, d3, ?_⟩
      rw [d4, (l1 _ c1 c2).2, (l2 _ c1 c2).2]
      omega
  · rename_i hc
    obtain ⟨b1, b2, b3, b4⟩ := ls4_spec (l := numAt ps s.1) (sl := (pcAt ps s.1).slope) (h := numAt qs s.1) (ot := (pcAt qs s.1).slope) a3 (by omega) (by omega)
    refine ⟨b1, b2, fun p hpm => ?_, fun c c1 c2 => ?_⟩
    · obtain ⟨d1, d2, d3⟩ := b3 p hpm
      refine ⟨d1, d2, ?_⟩
      rw [(l1 _ d1 d2).1, (l2 _ d1 d2).1, (l1 _ d1 d2).2, (l2 _ d1 d2).2]
      exact d3
    · obtain ⟨p, d1, d2, d3, d4⟩ := b4 c c1 c2
      refine ⟨p, d1, d2, d3, ?_⟩
      rw [d4, (l1 _ c1 c2).2, (l2 _ c1 c2).2]
def lsA (ps qs : List Pc) : List Pc := (spsR ps qs).flatMap (ls1 ps qs)
omit hp hq in
theorem lsR_all : lsR ps qs (spsR ps qs).length = lsA ps qs := by unfold lsR lsA; rw [List.take_length]
theorem ls_asc : ((lsA ps qs).map Pc.frm).Pairwise (· < ·) := by
  unfold lsA
  rw [List.map_flatMap, List.pairwise_flatMap]
  refine ⟨fun s hs => (ls1_spec hp hq hs).2.1, ?_⟩
  have hpw := (prs_pw (all_asc hp hq)).1
  refine List.Pairwise.imp_of_mem ?_ hpw
  intro a b ha hb hab x hx y hy
  obtain ⟨p, h1, rfl⟩ := List.mem_map.1 hx
  obtain ⟨q, h2, rfl⟩ := List.mem_map.1 hy
  have := (ls1_spec hp hq ha).2.2.1 p h1
  have := (ls1_spec hp hq hb).2.2.1 q h2
  omega
theorem ls_mem {p : Pc} (h : p ∈ lsA ps qs) : 0 ≤ p.frm ∧ p.frm ≤ 1000000000000 ∧ ((p.at_ = numAt ps p.frm ∧ p.slope = (pcAt ps p.frm).slope) ∨ (p.at_ = numAt qs p.frm ∧ p.slope = (pcAt qs p.frm).slope)) := by
  obtain ⟨s, hs, h1⟩ := List.mem_flatMap.1 h
  have a := sps_in hp hq hs
  have b := (ls1_spec hp hq hs).2.2.1 p h1
  exact ⟨by omega, by omega, b.2.2⟩
theorem ls_zero : ∃ p, (lsA ps qs)[0]? = some p ∧ p.frm = 0 := by
  obtain ⟨s, hs, h1, h2⟩ := sps_cover hp hq (c := 0) (by omega) (by omega)
  have a := sps_in hp hq hs
  obtain ⟨p, hpm, hpf⟩ := (ls1_spec hp hq hs).1
  have hm : p ∈ lsA ps qs := List.mem_flatMap.2 ⟨s, hs, hpm⟩
  have ha := ls_asc hp hq
  have hb := fun q hqm => ls_mem hp hq (p := q) hqm
  generalize lsA ps qs = l at *
  cases l with
  | nil => simp at hm
  | cons q l =>
    refine ⟨q, rfl, ?_⟩
    rcases List.mem_cons.1 hm with h | h
    · subst h; omega
    · rw [List.map_cons, List.pairwise_cons] at ha
      have := ha.1 p.frm (List.mem_map.2 ⟨p, h, rfl⟩)
      have := hb q (by simp)
      omega
theorem ls_num {c : Int} (h0 : 0 ≤ c) (h1 : c ≤ 1000000000000) : numAt (lsA ps qs) c = min (numAt ps c) (numAt qs c) := by
  obtain ⟨s, hs, h2, h3⟩ := sps_cover hp hq h0 h1
  obtain ⟨p, b1, b2, b3, b4⟩ := (ls1_spec hp hq hs).2.2.2 c h2 h3
  have e : pcAt (lsA ps qs) c = p := by
    refine pcAt_mem (ls_asc hp hq) (List.mem_flatMap.2 ⟨s, hs, b1⟩) b2 fun q hqm => ?_
    obtain ⟨s', hs', h4⟩ := List.mem_flatMap.1 hqm
    have d := (ls1_spec hp hq hs').2.2.1 q h4
    have d' := (ls1_spec hp hq hs).2.2.1 p b1
    have hx := sps_in hp hq hs'
    have hall := (prs_pw (all_asc hp hq)).2.2 s hs s'.1 (List.mem_append.2 (.inl hx.2.2.2.2.1))
    have hx2 := sps_in hp hq hs
    have hall' := (prs_pw (all_asc hp hq)).2.2 s' hs' s.1 (List.mem_append.2 (.inl hx2.2.2.2.2.1))
    rcases hall with h | h
    · rcases hall' with h' | h'
      · have e1 : s'.1 = s.1 := by omega
        have hu := prs_pw (all_asc hp hq)
        have e2 : s' = s := by
          have t1 := hu.2.2 s hs s'.2 (hu.2.1 s' hs').2.2
          have t2 := hu.2.2 s' hs' s.2 (hu.2.1 s hs).2.2
          exact Prod.ext e1 (by omega)
        subst e2
        exact b3 q h4
      · left; omega
    · right; omega
  unfold numAt
  rw [e, b4]
  rfl
end
theorem valid_of {D : Int} {l : List Pc} (h1 : 1 ≤ D ∧ D ≤ 1000000) (h2 : l.length ≤ 64) (h3 : ∃ p, l[0]? = some p ∧ p.frm = 0) (h4 : (l.map Pc.frm).Pairwise (· < ·))
    (h5 : ∀ p ∈ l, p.frm ≤ 1000000000000 ∧ -1000000 ≤ p.slope ∧ p.slope ≤ 1000000 ∧ -1000000000000000000 ≤ p.at_ ∧ p.at_ ≤ 1000000000000000000) : validB D l = true := by
  obtain ⟨p0, e0, f0⟩ := h3
  have hl := (List.getElem?_eq_some_iff.1 e0).1
  unfold validB
  simp only [Bool.and_eq_true, decide_eq_true_eq, List.all_eq_true, List.mem_range]
  refine ⟨⟨⟨⟨by omega, by omega⟩, by omega⟩, by omega⟩, fun i hi => ?_⟩
  obtain ⟨p, hp⟩ : ∃ p, l[i]? = some p := ⟨_, List.getElem?_eq_getElem hi⟩
  have hb := h5 p (List.mem_of_getElem? hp)
  unfold okI
  rw [hp]
  dsimp only
  have hrest : (decide (-1000000 ≤ p.slope) && decide (p.slope ≤ 1000000) && decide (-1000000000000000000 ≤ p.at_) && decide (p.at_ ≤ 1000000000000000000)) = true := by
    simp only [Bool.and_eq_true, decide_eq_true_eq]
    omega
  rw [hrest, Bool.and_true]
  cases i with
  | zero =>
    rw [if_pos rfl]
    rw [hp] at e0
    cases e0
    simp [f0]
  | succ i =>
    obtain ⟨q, hq⟩ : ∃ p, l[i]? = some p := ⟨_, List.getElem?_eq_getElem (by omega)⟩
    rw [if_neg (by omega), show i + 1 - 1 = i by omega, hq]
    dsimp only
    have := List.pairwise_iff_getElem.1 h4 i (i + 1) (by simpa using (by omega : i < l.length)) (by simpa using hi) (by omega)
    rw [List.getElem_map, List.getElem_map, (List.getElem?_eq_some_iff.1 hp).2, (List.getElem?_eq_some_iff.1 hq).2] at this
    simp only [Bool.and_eq_true, decide_eq_true_eq]
    omega
theorem made_bd (den : Int) (l : List T3) : ∀ p ∈ madeM den l, -2000 ≤ p.slope ∧ p.slope ≤ 2000 ∧ -1000000000 ≤ p.at_ ∧ p.at_ ≤ 1000001000 := by
  intro p hp
  have hD := denM_bd den
  unfold madeM at hp
  split at hp
  · simp at hp
    subst hp
    simp
  · unfold pcsM at hp
    rw [List.mem_map] at hp
    obtain ⟨i, _, rfl⟩ := hp
    have ha := atM_bd (b := (l.getD i default).2.1) hD
    have hs := pickR_bd (l.getD i default).2.2 (n := 4001) (by omega)
    simp only [pcM]
    omega
theorem made_len (den : Int) (l : List T3) : (madeM den l).length ≤ 30 ∧ (l.length ≤ 15 → (madeM den l).length ≤ 15) := by
  unfold madeM
  split
  · simp
  · unfold pcsM
    simp
    omega
/-- bounds of a function whose pieces are small -/
def Sml (ps : List Pc) : Prop := ∀ p ∈ ps, -2000 ≤ p.slope ∧ p.slope ≤ 2000 ∧ -1000000000 ≤ p.at_ ∧ p.at_ ≤ 1000001000
theorem sml_bd {den : Int} {ps : List Pc} (hv : validB den ps = true) (hs : Sml ps) {x : Int} (hx : 0 ≤ x) (hx' : x ≤ 1000000000000) : -3000000000000000 ≤ numAt ps x ∧ numAt ps x ≤ 3000000000000000 ∧ -2000 ≤ (pcAt ps x).slope ∧ (pcAt ps x).slope ≤ 2000 := by
  obtain ⟨a1, a2, a3⟩ := pcAt_spec hv hx
  have hb := hs _ (List.mem_of_getElem? a1)
  have hf := valid_piece hv a1
  have := mul_bd (pcAt ps x).slope (x - (pcAt ps x).frm) 2000 1000000000000 (by omega) (by omega) (by omega) (by omega) (by omega)
  unfold numAt
  omega
theorem sum_valid {D : Int} {ps qs : List Pc} (hp : validB D ps = true) (hq : validB D qs = true) (sp : Sml ps) (sq : Sml qs) (hl : ps.length + qs.length ≤ 64) : validB D (sumPs ps qs) = true := by
  have h1 := valid_parts hp
  have hh := starts_head hp hq
  have hlen := starts_len (ps := ps) (qs := qs)
  refine valid_of (by omega) (by unfold sumPs; rw [List.length_map]; omega) ?_ sum_asc fun p hpm => ?_
  · refine ⟨sumP ps qs 0, ?_, rfl⟩
    unfold sumPs
    rw [List.getElem?_map, ← List.head?_eq_getElem?, hh]
    rfl
  · obtain ⟨x, hx, rfl⟩ := List.mem_map.1 hpm
    have hb := starts_mem hp hq hx
    have b1 := sml_bd hp sp hb.1 hb.2
    have b2 := sml_bd hq sq hb.1 hb.2
    simp only [sumP]
    omega
theorem ls_valid {D : Int} {ps qs : List Pc} (hp : validB D ps = true) (hq : validB D qs = true) (sp : Sml ps) (sq : Sml qs) (hl : ps.length + qs.length ≤ 32) : validB D (lsA ps qs) = true := by
  have h1 := valid_parts hp
  have hlen := starts_len (ps := ps) (qs := qs)
  have hll := ls_len (ps := ps) (qs := qs) (spsR ps qs).length
  have hsl : (spsR ps qs).length ≤ 32 := by rw [← sps_starts] at hlen; rw [List.length_map] at hlen; omega
  rw [lsR_all] at hll
  refine valid_of (by omega) (by omega) (ls_zero hp hq) (ls_asc hp hq) fun p hpm => ?_
  have hb := ls_mem hp hq hpm
  have b1 := sml_bd hp sp hb.1 hb.2.1
  have b2 := sml_bd hq sq hb.1 hb.2.1
  omega
end Go.Proofs.Ytnekeokgognegaa
