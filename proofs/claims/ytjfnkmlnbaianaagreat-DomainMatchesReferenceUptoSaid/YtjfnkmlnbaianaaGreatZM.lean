/-
  Plain part: the keys of a map in the order of a range; maps that count.
  Conditions: those of each theorem.
-/
import Derived.Test.YtjfnkmlnbaianaaGreatE5D
import Derived.Test.YtjfnkmlnbaianaaGreatZA
namespace Go.Wage
open Go.E2
def keysAt {β : Type} (M : List (Int × β)) (seen : List Nat) : List Int := seen.map fun j => (M.map (·.1)).getD j 0
theorem nodup_len {n : Nat} {l : List Nat} (h1 : l.Nodup) (h2 : ∀ k ∈ l, k < n) : l.length ≤ n := by
 have := h1.length_le_of_subset (l₂ := List.range n) fun k hk => List.mem_range.2 (h2 k hk)
 simpa using this
theorem keysAt_perm {β : Type} {M : List (Int × β)} {seen : List Nat} (h1 : seen.Nodup) (h2 : ∀ k ∈ seen, k < M.length) (h3 : ∀ k, k < M.length → k ∈ seen) : (keysAt M seen).Perm (M.map (·.1)) := by
 have hp : seen.Perm (List.range M.length) := (List.perm_ext_iff_of_nodup h1 List.nodup_range).2 fun k => ⟨fun h => List.mem_range.2 (h2 k h), fun h => h3 k (List.mem_range.1 h)⟩
 have := hp.map fun j => (M.map (·.1)).getD j 0
 have e : (List.range M.length).map (fun j => (M.map (·.1)).getD j 0) = M.map (·.1) := by
  apply List.ext_getElem
  ·simp
  ·intro i a b
   simp at a
   simp [List.getD, a]
 rw [e] at this
 exact this
theorem keysAt_snoc {β : Type} {M : List (Int × β)} {seen : List Nat} {j : Nat} {p : Int × β} (h : M[j]? = some p) : keysAt M (seen ++ [j]) = keysAt M seen ++ [p.1] := by
 simp [keysAt, List.getD, h]
section
variable {α β : Type} [DecidableEq α]
theorem lk_ups (x y : α) (v : β) : ∀ l : List (α × β), lk y (ups x v l) = if y = x then some v else lk y l
 | [] => by
  by_cases e : y = x <;> simp [ups, lk, e]
 | p :: l => by
  rw [ups]
  by_cases e : x = p.1
  ·rw [if_pos e]
   by_cases e2 : y = x
   ·simp [lk, e2]
   ·rw [lk, lk, if_neg e2, if_neg e2, if_neg (by rw [← e]; exact e2)]
  ·rw [if_neg e, lk, lk_ups x y v l, lk]
   by_cases e2 : y = p.1
   ·rw [if_pos e2, if_pos e2, if_neg (by rw [e2]; exact fun h => e h.symm)]
   ·rw [if_neg e2, if_neg e2]
theorem ups_keys (x : α) (v : β) : ∀ l : List (α × β), (ups x v l).map (·.1) = if x ∈ l.map (·.1) then l.map (·.1) else l.map (·.1) ++ [x]
 | [] => by simp [ups]
 | p :: l => by
  rw [ups]
  by_cases e : x = p.1
  ·simp [e]
  ·have := ups_keys x v l
   rw [if_neg e, List.map_cons, this]
   simp only [List.map_cons, List.mem_cons, e, false_or]
   split <;> simp
theorem ups_nodup {x : α} {v : β} {l : List (α × β)} (h : (l.map (·.1)).Nodup) : ((ups x v l).map (·.1)).Nodup := by
 rw [ups_keys]
 split
 ·exact h
 ·rename_i hn
  rw [List.nodup_append]
  exact ⟨h, by simp, fun a ha b hb e => by simp at hb; subst hb; subst e; exact hn ha⟩
theorem lk_key {x : α} : ∀ {l : List (α × β)}, x ∈ l.map (·.1) ↔ (lk x l).isSome = true
 | [] => by simp [lk]
 | p :: l => by
  rw [lk]
  by_cases e : x = p.1
  ·simp [e]
  ·rw [if_neg e, ← lk_key (x := x) (l := l), List.map_cons, List.mem_cons]
   simp [e]
end
def Cnt (M : List (Int × Int)) (f : Int → Int) : Prop := (M.map (·.1)).Nodup ∧ ∀ d, lk d M = if 0 < f d then some (f d) else none
theorem Cnt.get {M : List (Int × Int)} {f : Int → Int} (h : Cnt M f) (h0 : ∀ d, 0 ≤ f d) (d : Int) : (lk d M).getD 0 = f d := by
 rw [h.2 d]
 have := h0 d
 split
 ·rfl
 ·simp only [Option.getD_none]; omega
theorem Cnt.put {M : List (Int × Int)} {f g : Int → Int} (h : Cnt M f) {x v : Int} (hv : 0 < v) (hg : ∀ d, g d = if d = x then v else f d) : Cnt (ups x v M) g := by
 refine ⟨ups_nodup h.1, fun d => ?_⟩
 rw [lk_ups, hg d]
 by_cases e : d = x
 ·rw [if_pos e, if_pos e, if_pos hv]
 ·rw [if_neg e, if_neg e]; exact h.2 d
theorem Cnt.nil {f : Int → Int} (h : ∀ d, f d = 0) : Cnt [] f := ⟨by simp, fun d => by rw [h d]; rfl⟩
theorem Cnt.cong {M : List (Int × Int)} {f g : Int → Int} (h : Cnt M f) (hg : ∀ d, g d = f d) : Cnt M g := ⟨h.1, fun d => by rw [hg d]; exact h.2 d⟩
theorem Cnt.keys {M : List (Int × Int)} {f : Int → Int} (h : Cnt M f) (d : Int) : d ∈ M.map (·.1) ↔ 0 < f d := by
 rw [lk_key, h.2 d]
 split <;> simp_all
theorem ints_len {l : List Int} (h : l.Nodup) {lo : Int} {n : Nat} (hl : ∀ d ∈ l, lo ≤ d ∧ d < lo + n) : l.length ≤ n := by
 have := h.length_le_of_subset (l₂ := (List.range n).map fun i : Nat => lo + i) fun d hd => by
  have := hl d hd
  exact List.mem_map.2 ⟨(d - lo).toNat, List.mem_range.2 (by omega), by omega⟩
 simpa using this
theorem Cnt.len {M : List (Int × Int)} {f : Int → Int} (h : Cnt M f) {lo : Int} {n : Nat} (hl : ∀ d, 0 < f d → lo ≤ d ∧ d < lo + n) : M.length ≤ n := by
 have := ints_len h.1 (lo := lo) (n := n) fun d hd => hl d ((h.keys d).1 hd)
 simpa using this
end Go.Wage
