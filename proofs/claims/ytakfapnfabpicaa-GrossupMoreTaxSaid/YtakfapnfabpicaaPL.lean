/-
  Plain: a tax with a whole number of cents more everywhere.
  Conditions: none beyond the premises of each theorem.
-/
import Derived.Test.YtakfapnfabpicaaV27
namespace Go.Wage
open Go.Proofs.Ytakfapnfabpicaa
def mor (den by_ : Int) (p : Pc) : Pc := ⟨p.frm, p.at_ + by_ * den, p.slope⟩
theorem first_zero {den : Int} {ps : List Pc} (hv : validB den ps = true) : ∃ p, ps[0]? = some p ∧ p.frm = 0 := by
  have h1 := valid_parts hv
  obtain ⟨p, hp⟩ : ∃ p, ps[0]? = some p := ⟨_, List.getElem?_eq_getElem (by omega)⟩
  have h2 := h1.2.2.2.2 0 (by omega)
  unfold okI at h2
  rw [hp] at h2
  simp only [if_true, Bool.and_eq_true, decide_eq_true_eq] at h2
  exact ⟨p, hp, by have := h2.1; simpa using this⟩
theorem starts_one {den c s : Int} {ps : List Pc} (hv : validB den ps = true) : startsR ps [⟨0, c, s⟩] = ps.map Pc.frm := by
  obtain ⟨p, hp, h0⟩ := first_zero hv
  refine asc_uniq (srtI_asc _) ?_ fun x => ?_
  · rw [List.pairwise_map, List.pairwise_iff_getElem]
    intro i j hi hj hij
    exact valid_incr hv hij (List.getElem?_eq_getElem hi) (List.getElem?_eq_getElem hj)
  · unfold startsR
    rw [srtI_mem, List.mem_append]
    constructor
    · rintro (h | h)
      · exact h
      · simp only [List.map_cons, List.map_nil, List.mem_singleton] at h
        subst h
        exact List.mem_map.2 ⟨p, List.mem_of_getElem? hp, h0⟩
    · exact .inl
theorem pc_one {c s x : Int} (hx : 0 ≤ x) (h1 : -1000000000000000000 ≤ c) (h2 : c ≤ 1000000000000000000) (hs : s = 0) : pcAt [⟨0, c, s⟩] x = ⟨0, c, s⟩ := by
  subst hs
  have hv : validB 1 [⟨0, c, 0⟩] = true := by
    simp [validB, okI, List.range, List.range.loop]
    omega
  obtain ⟨g1, _, _⟩ := pcAt_spec hv hx
  have hlt := (List.getElem?_eq_some_iff.1 g1).1
  have e : pix [⟨0, c, 0⟩] x = 0 := by simp at hlt; exact hlt
  rw [e] at g1
  simpa using g1.symm
theorem sum_one {den by_ : Int} {ps : List Pc} (hv : validB den ps = true) (h1 : -1000000000000000000 ≤ by_ * den) (h2 : by_ * den ≤ 1000000000000000000) : sumPs ps [⟨0, by_ * den, 0⟩] = ps.map (mor den by_) := by
  unfold sumPs
  rw [starts_one hv, List.map_map]
  refine List.map_congr_left fun p hp => ?_
  obtain ⟨i, hi⟩ := List.getElem?_of_mem hp
  have hb := nxt_bd hv hi
  have hz := valid_piece hv hi
  have e1 : pcAt ps p.frm = p := at_piece hv hi (Int.le_refl _) hb.1
  have e2 := pc_one (s := 0) (show 0 ≤ p.frm by omega) h1 h2 rfl
  show sumP ps [⟨0, by_ * den, 0⟩] p.frm = mor den by_ p
  unfold sumP numAt mor
  rw [e1, e2]
  dsimp only
  rw [Int.sub_self, Int.mul_zero, Int.add_zero, Int.zero_mul, Int.add_zero, Int.add_zero]
theorem nxt_mor {den by_ : Int} (ps : List Pc) : nxt (ps.map (mor den by_)) = nxt ps := by cases ps <;> rfl
theorem more_net {den by_ a b x : Int} {ps : List Pc} (hv : validB den ps = true) (hm : validB den (ps.map (mor den by_)) = true) (ha : netR den ps x = (a, 0)) (hb : netR den (ps.map (mor den by_)) x = (b, 0)) : b = a - by_ := by
  have hd := (valid_parts hv).1
  obtain ⟨i, p, p1, p2, p3, _, _, p6⟩ := onL_iff.1 ((net_iff hv).1 ha)
  obtain ⟨j, q, q1, q2, q3, _, _, q6⟩ := onL_iff.1 ((net_iff hm).1 hb)
  rw [List.getElem?_map, Option.map_eq_some_iff] at q1
  obtain ⟨r, r1, rfl⟩ := q1
  rw [← List.map_drop, nxt_mor] at q3
  have e : p = r := by rw [← at_piece hv p1 p2 p3, at_piece hv r1 q2 q3]
  subst e
  rw [← p6, ← q6]
  unfold nt wh mor
  dsimp only
  have : (p.at_ + by_ * den + p.slope * (x - p.frm)) / den = (p.at_ + p.slope * (x - p.frm)) / den + by_ := by
    rw [show p.at_ + by_ * den + p.slope * (x - p.frm) = (p.at_ + p.slope * (x - p.frm)) + by_ * den by omega, Int.add_mul_ediv_right _ _ (by omega)]
  omega
end Go.Wage
