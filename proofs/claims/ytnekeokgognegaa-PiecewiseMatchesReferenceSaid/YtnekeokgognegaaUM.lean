/-
  Plain: what the reference's Least and Where put together.
  Conditions: those of each theorem.
-/
import Derived.Test.YtnekeokgognegaaU15
namespace Go.Proofs.Ytnekeokgognegaa
open Go.E2 Go.Wage
/-- the first argument of a stretch from which the higher one is less -/
def trnR (l sl h ot : Int) (s : Sp) : Int := if sl ≤ ot then s.2 else if (h - l) / (sl - ot) + 1 < s.2 - s.1 then s.1 + ((h - l) / (sl - ot) + 1) else s.2
theorem trn_bd {l sl h ot : Int} {s : Sp} (hs : s.1 < s.2) (hlh : l ≤ h) : s.1 < trnR l sl h ot s ∧ trnR l sl h ot s ≤ s.2 := by
  unfold trnR
  split
  · omega
  · have hq : 0 ≤ (h - l) / (sl - ot) := Int.ediv_nonneg (by omega) (by omega)
    split <;> omega
theorem trn_iff {l sl h ot x : Int} {s : Sp} (hlh : l ≤ h) (h1 : s.1 ≤ x) (h2 : x < s.2) : h + ot * (x - s.1) < l + sl * (x - s.1) ↔ trnR l sl h ot s ≤ x := by
  have hx : 0 ≤ x - s.1 := by omega
  have e : ∀ z : Int, sl * z = ot * z + z * (sl - ot) := fun z => by rw [Int.mul_sub, Int.mul_comm z sl, Int.mul_comm z ot]; omega
  rw [e]
  unfold trnR
  split
  · rename_i hc
    have : (x - s.1) * (sl - ot) ≤ 0 := Int.mul_nonpos_of_nonneg_of_nonpos hx (by omega)
    omega
  · rename_i hc
    have hd := Int.ediv_lt_iff_lt_mul (a := h - l) (b := x - s.1) (c := sl - ot) (by omega)
    split <;> omega
theorem ls4_trn {l sl h ot : Int} {s : Sp} : ls4 l sl h ot s = if trnR l sl h ot s < s.2 then [⟨s.1, l, sl⟩, ⟨trnR l sl h ot s, h + ot * (trnR l sl h ot s - s.1), ot⟩] else [⟨s.1, l, sl⟩] := by
  unfold ls4 trnR
  split
  · rw [if_neg (by omega)]
  · split
    · rw [if_pos (by omega), show s.1 + ((h - l) / (sl - ot) + 1) - s.1 = (h - l) / (sl - ot) + 1 by omega]
    · rw [if_neg (by omega)]
/-- the bounds of what lies between two numbers, in a stretch -/
def clmp (s : Sp) (t : Int) : Int := max s.1 (min t s.2)
def bdsR (start slope low high : Int) (s : Sp) : Sp :=
  if slope = 0 then (if low ≤ start then s.1 else s.2, if high < start then s.1 else s.2)
  else (clmp s (s.1 + (stepsR start slope low high).1), clmp s (s.1 + (stepsR start slope low high).2 + 1))
theorem bds_bd {start slope low high : Int} {s : Sp} (hs : s.1 < s.2) : s.1 ≤ (bdsR start slope low high s).1 ∧ (bdsR start slope low high s).1 ≤ s.2 ∧ s.1 ≤ (bdsR start slope low high s).2 ∧ (bdsR start slope low high s).2 ≤ s.2 := by
  unfold bdsR clmp
  split
  · refine ⟨?_, ?_, ?_, ?_⟩ <;> dsimp only <;> split <;> omega
  · dsimp only; omega
theorem bds_up {start slope low high x : Int} {s : Sp} (h0 : 0 ≤ slope) (h1 : s.1 ≤ x) (h2 : x < s.2) :
    (low ≤ start + slope * (x - s.1) ↔ (bdsR start slope low high s).1 ≤ x) ∧ (high + 1 ≤ start + slope * (x - s.1) ↔ (bdsR start slope low high s).2 ≤ x) := by
  unfold bdsR clmp
  split
  · rename_i h
    subst h
    rw [Int.zero_mul]
    dsimp only
    constructor <;> split <;> omega
  · rename_i h
    unfold stepsR
    rw [if_pos (by omega)]
    have a1 := Int.le_ediv_iff_mul_le (a := -(x - s.1)) (b := start - low) (c := slope) (by omega)
    have a2 := Int.le_ediv_iff_mul_le (a := x - s.1) (b := high - start) (c := slope) (by omega)
    rw [Int.neg_mul, Int.mul_comm (x - s.1)] at a1
    rw [Int.mul_comm (x - s.1)] at a2
    dsimp only
    omega
theorem bds_dn {start slope low high x : Int} {s : Sp} (h0 : slope < 0) (h1 : s.1 ≤ x) (h2 : x < s.2) :
    (start + slope * (x - s.1) ≤ high ↔ (bdsR start slope low high s).1 ≤ x) ∧ (start + slope * (x - s.1) ≤ low - 1 ↔ (bdsR start slope low high s).2 ≤ x) := by
  unfold bdsR clmp
  rw [if_neg (by omega)]
  unfold stepsR
  rw [if_neg (by omega), if_pos h0]
  have a1 := Int.le_ediv_iff_mul_le (a := -(x - s.1)) (b := high - start) (c := -slope) (by omega)
  have a2 := Int.le_ediv_iff_mul_le (a := x - s.1) (b := start - low) (c := -slope) (by omega)
  rw [Int.neg_mul, Int.mul_neg, Int.neg_neg, Int.mul_comm (x - s.1)] at a1
  rw [Int.mul_neg, Int.mul_comm (x - s.1)] at a2
  dsimp only
  omega
theorem wsp_bds {den low high : Int} {ps : List Pc} {s : Sp} (hs : s.1 < s.2) (hs2 : s.2 - s.1 ≤ 1000000000001) (hlh : low * den ≤ high * den) :
    wsp den low high ps s = if (bdsR (numAt ps s.1) (pcAt ps s.1).slope (low * den) (high * den) s).1 < (bdsR (numAt ps s.1) (pcAt ps s.1).slope (low * den) (high * den) s).2 then [bdsR (numAt ps s.1) (pcAt ps s.1).slope (low * den) (high * den) s] else [] := by
  unfold wsp bdsR clmp
  generalize numAt ps s.1 = start
  generalize (pcAt ps s.1).slope = slope
  generalize low * den = lo at *
  generalize high * den = hi at *
  by_cases h0 : slope = 0
  · subst h0
    unfold stepsR
    simp only [if_true, if_neg (show ¬ (0 : Int) < 0 by omega)]
    by_cases h1 : lo ≤ start
    · by_cases h2 : start ≤ hi
      · rw [if_pos (show lo ≤ start ∧ start ≤ hi from ⟨h1, h2⟩), if_pos h1, if_neg (show ¬ hi < start by omega)]
        dsimp only
        rw [if_pos (by omega), if_pos hs]
        congr 2 <;> omega
      · rw [if_neg (show ¬ (lo ≤ start ∧ start ≤ hi) by omega), if_pos h1, if_pos (show hi < start by omega)]
        dsimp only
        rw [if_neg (by omega), if_neg (by omega)]
    · rw [if_neg (show ¬ (lo ≤ start ∧ start ≤ hi) by omega), if_neg h1, if_neg (show ¬ hi < start by omega)]
      dsimp only
      rw [if_neg (by omega), if_neg (by omega)]
  · rw [if_neg h0]
    generalize stepsR start slope lo hi = r
    dsimp only
    by_cases h : max r.1 0 ≤ min r.2 (s.2 - s.1 - 1)
    · rw [if_pos h, if_pos (by omega)]
      congr 2 <;> omega
    · rw [if_neg h, if_neg (by omega)]
theorem steps_iff2 {start slope low high z : Int} (hz : 0 ≤ z ∧ z ≤ 1000000000000) : (stepsR start slope low high).1 ≤ z ∧ z ≤ (stepsR start slope low high).2 ↔ low ≤ start + slope * z ∧ start + slope * z ≤ high := by
  unfold stepsR
  split
  · rename_i h
    have a1 := Int.le_ediv_iff_mul_le (a := -z) (b := start - low) h
    have a2 := Int.le_ediv_iff_mul_le (a := z) (b := high - start) h
    rw [Int.neg_mul, Int.mul_comm z] at a1
    rw [Int.mul_comm z] at a2
    dsimp only
    omega
  · split
    · rename_i h
      have a1 := Int.le_ediv_iff_mul_le (a := -z) (b := high - start) (c := -slope) (by omega)
      have a2 := Int.le_ediv_iff_mul_le (a := z) (b := start - low) (c := -slope) (by omega)
      rw [Int.neg_mul, Int.mul_neg, Int.neg_neg, Int.mul_comm z] at a1
      rw [Int.mul_neg, Int.mul_comm z] at a2
      dsimp only
      omega
    · have : slope = 0 := by omega
      subst this
      rw [Int.zero_mul]
      split <;> dsimp only <;> omega
theorem wsp_nil {den low high : Int} {ps : List Pc} {s : Sp} (hs : s.1 < s.2) (hs2 : s.2 - s.1 ≤ 1000000000001) (h : high * den < low * den) : wsp den low high ps s = [] := by
  unfold wsp
  have hi := fun z hz => steps_iff2 (start := numAt ps s.1) (slope := (pcAt ps s.1).slope) (low := low * den) (high := high * den) (z := z) hz
  generalize stepsR (numAt ps s.1) (pcAt ps s.1).slope (low * den) (high * den) = r at *
  rw [if_neg]
  intro hc
  have := (hi (max r.1 0) (by omega)).1 (by omega)
  omega
theorem fnd_nil {den low high : Int} {ps : List Pc} (hp : validB den ps = true) (h : high < low) : fndR den low high ps (spsR ps []).length = [] := by
  have hv := valid_parts hp
  have hm : (high + 1) * den ≤ low * den := Int.mul_le_mul_of_nonneg_right (by omega) (by omega)
  rw [Int.add_mul, Int.one_mul] at hm
  unfold fndR
  rw [List.flatMap_eq_nil_iff]
  intro s hs
  obtain ⟨k, hk⟩ := List.getElem?_of_mem (List.mem_of_mem_take hs)
  have hb := sps_bd (den' := den) hp (.inl rfl) hk
  exact wsp_nil (by omega) (by omega) (by omega)
theorem trn_lin {den : Int} {ps : List Pc} {s : Sp} {x : Int} (hp : validB den ps = true) (h0 : 0 ≤ s.1) (hs : ∀ p ∈ ps, p.frm ≤ s.1 ∨ s.2 ≤ p.frm) (h1 : s.1 ≤ x) (h2 : x < s.2) : pcAt ps x = pcAt ps s.1 ∧ numAt ps x = numAt ps s.1 + (pcAt ps s.1).slope * (x - s.1) :=
  lin hp h0 h1 fun p hpm => by rcases hs p hpm with h | h <;> omega
theorem starts_one {den : Int} {ps : List Pc} (hp : validB den ps = true) : startsR ps [] = ps.map Pc.frm := by
  rw [← starts_mrg (den' := den) hp (.inl rfl), List.map_nil, mrgI_nil']
theorem sps_one {den : Int} {ps : List Pc} (hp : validB den ps = true) {i : Nat} (hi : i < ps.length) : (spsR ps [])[i]? = some ((ps.getD i default).frm, if i + 1 < ps.length then (ps.getD (i + 1) default).frm else 1000000000001) := by
  unfold spsR
  rw [starts_one hp]
  refine prs_get ?_ ?_
  · rw [List.getElem?_append_left (by simpa using hi), List.getElem?_map, gAtD hi]
    rfl
  · by_cases h : i + 1 < ps.length
    · rw [if_pos h, List.getElem?_append_left (by simpa using h), List.getElem?_map, gAtD h]
      rfl
    · rw [if_neg h, List.getElem?_append_right (by simp; omega), List.length_map, show i + 1 - ps.length = 0 by omega]
      rfl
theorem pcAt_one {den : Int} {ps : List Pc} (hp : validB den ps = true) {i : Nat} (hi : i < ps.length) : pcAt ps (ps.getD i default).frm = ps.getD i default := by
  refine (pcAt_eq (gAtD hi) (fun j q hj hq => ?_) (fun q hq => ?_)).2
  · by_cases e : j = i
    · subst e
      rw [gAtD hi] at hq
      cases hq
      exact Int.le_refl _
    · have := valid_incr hp (show j < i by omega) hq (gAtD hi)
      omega
  · exact valid_incr hp (Nat.lt_succ_self i) (gAtD hi) hq
end Go.Proofs.Ytnekeokgognegaa
