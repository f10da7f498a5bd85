/-
  Plain part of chapter 5: the common starts of two functions.
  Conditions: those of each theorem.
-/
import Derived.Test.YtnekeokgognegaaPS
import Derived.Test.YtnekeokgognegaaPA
namespace Go.Wage
abbrev srtI (zs : List Int) : List Int := sI zs
theorem srtI_mem {zs : List Int} {x : Int} : x ∈ srtI zs ↔ x ∈ zs := sI_mem
theorem srtI_asc (zs : List Int) : (srtI zs).Pairwise (· < ·) := sI_asc zs
def startsR (ps qs : List Pc) : List Int := srtI (ps.map Pc.frm ++ qs.map Pc.frm)
theorem starts_bd {den den' : Int} {ps qs : List Pc} (hp : validB den ps = true) (hq : qs = [] ∨ validB den' qs = true) {s : Int} (h : s ∈ startsR ps qs) : 0 ≤ s ∧ s ≤ 1000000000000 := by
  unfold startsR at h
  rw [srtI_mem, List.mem_append, List.mem_map, List.mem_map] at h
  rcases h with ⟨p, h1, rfl⟩ | ⟨p, h1, rfl⟩
  · obtain ⟨i, hi⟩ := List.getElem?_of_mem h1
    have := valid_piece hp hi
    omega
  · rcases hq with rfl | hq
    · cases h1
    · obtain ⟨i, hi⟩ := List.getElem?_of_mem h1
      have := valid_piece hq hi
      omega
theorem starts_len {ps qs : List Pc} : (startsR ps qs).length ≤ ps.length + qs.length := by
  have key : ∀ zs : List Int, (Go.Lib.compact zs).length ≤ zs.length := fun zs => by
    unfold Go.Lib.compact Go.Lib.compactUpTo
    rw [List.length_map]
    exact Nat.le_trans (List.length_filter_le _ _) (by simp)
  have := key ((ps.map Pc.frm ++ qs.map Pc.frm).mergeSort fun x y => decide (x ≤ y))
  rw [List.length_mergeSort, List.length_append, List.length_map, List.length_map] at this
  exact this
theorem prs_inv : ∀ {l : List Int} {k : Nat} {s : Sp}, (prs l)[k]? = some s → l[k]? = some s.1 ∧ l[k + 1]? = some s.2 ∧ k + 1 < l.length
  | x :: y :: l, 0, s, h => by simp [prs] at h; subst h; simp
  | x :: y :: l, k + 1, s, h => by
    simp only [prs, List.getElem?_cons_succ] at h ⊢
    have := prs_inv (l := y :: l) h
    exact ⟨this.1, this.2.1, by have := this.2.2; simp only [List.length_cons] at this ⊢; omega⟩
  | [x], k, s, h => by simp [prs] at h
  | [], k, s, h => by simp [prs] at h
theorem prs_start {S : List Int} {m : Int} {k : Nat} {s : Sp} (h : (prs (S ++ [m]))[k]? = some s) : S[k]? = some s.1 := by
  obtain ⟨h1, _, h2⟩ := prs_inv h
  rw [List.length_append, List.length_singleton] at h2
  rwa [List.getElem?_append_left (by omega)] at h1
theorem pcAt_bd {den x : Int} {ps : List Pc} (hp : validB den ps = true) (hx : 0 ≤ x) : -1000000 ≤ (pcAt ps x).slope ∧ (pcAt ps x).slope ≤ 1000000 := by
  obtain ⟨s1, _, _⟩ := pcAt_spec hp hx
  have := valid_piece hp s1
  omega
def chkR (den : Int) (ps : List Pc) : (Int × List Pc) × Int := if 64 < ps.length then ((0, []), 2) else if validB den ps = true then ((den, ps), 0) else ((0, []), 3)
def sumP (ps qs : List Pc) (s : Int) : Pc := ⟨s, numAt ps s + numAt qs s, (pcAt ps s).slope + (pcAt qs s).slope⟩
def sumPs (ps qs : List Pc) : List Pc := (startsR ps qs).map (sumP ps qs)
theorem sum_take {ps qs : List Pc} {k : Nat} {s : Int} (h : (startsR ps qs)[k]? = some s) : (sumPs ps qs).take (k + 1) = (sumPs ps qs).take k ++ [sumP ps qs s] := by
  have h' : (sumPs ps qs)[k]? = some (sumP ps qs s) := by unfold sumPs; rw [List.getElem?_map, h]; rfl
  obtain ⟨hlt, he⟩ := List.getElem?_eq_some_iff.1 h'
  rw [List.take_succ_eq_append_getElem hlt, he]
def spsR (ps qs : List Pc) : List Sp := prs (startsR ps qs ++ [1000000000001])
theorem sps_len (ps qs : List Pc) : (spsR ps qs).length = (startsR ps qs).length := by
  unfold spsR
  rw [prs_len, List.length_append, List.length_singleton, Nat.add_sub_cancel]
end Go.Wage
