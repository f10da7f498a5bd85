/-
  Plain arithmetic and lists: quotients, first numbers, pieces of a function, rounding, stretches.
  Conditions: none beyond the premises of each theorem.
-/
import Derived.Below
namespace Go.Wage
def fdiv (a b : Int) : Int := if a.tmod b < 0 then a.tdiv b - 1 else a.tdiv b
theorem tdiv_bd (a b : Int) (hb : 1 ≤ b) (h : -1000000000000000000 * 9 ≤ a ∧ a ≤ 1000000000000000000 * 9) : -1000000000000000000 * 9 ≤ a.tdiv b ∧ a.tdiv b ≤ 1000000000000000000 * 9 := by
 rcases Int.le_total 0 a with h0 | h0
 ·rw [Int.tdiv_eq_ediv_of_nonneg h0]
  have h1 := Int.ediv_nonneg h0 (by omega : 0 ≤ b)
  have h2 := Int.ediv_le_self b h0
  omega
 ·have e : a = -(-a) := by omega
  rw [e, Int.neg_tdiv, Int.tdiv_eq_ediv_of_nonneg (by omega)]
  have h1 := Int.ediv_nonneg (by omega : 0 ≤ -a) (by omega : 0 ≤ b)
  have h2 := Int.ediv_le_self b (by omega : 0 ≤ -a)
  omega
structure Pc where
 frm : Int
 at_ : Int
 slope : Int
 deriving Inhabited, DecidableEq
theorem fdiv_eq (a b : Int) (hb : 1 ≤ b) : fdiv a b = a / b := by
 unfold fdiv
 by_cases h0 : 0 ≤ a
 ·rw [if_neg (by have := Int.tmod_nonneg b h0; omega), Int.tdiv_eq_ediv_of_nonneg h0]
 ·have e : a.tdiv b = if b ∣ a then a / b else a / b + 1 := by
   rw [Int.tdiv_eq_ediv]
   have : ¬ 0 ≤ a := h0
   by_cases hd : b ∣ a
   ·simp [hd]
   ·simp [hd, h0, Int.sign_eq_one_of_pos (show 0 < b by omega)]
  by_cases hd : b ∣ a
  ·have : a.tmod b = 0 := Int.tmod_eq_zero_of_dvd hd
   rw [if_neg (by omega), e, if_pos hd]
  ·have hm : a.tmod b < 0 := by
    have hne : a.tmod b ≠ 0 := fun h => hd (Int.dvd_of_tmod_eq_zero h)
    have : a.tmod b = -((-a).tmod b) := by rw [Int.neg_tmod]; omega
    have := Int.tmod_nonneg b (show 0 ≤ -a by omega)
    omega
   rw [if_pos hm, e, if_neg hd]
   omega
def fstN (p : Int → Bool) (lo : Int) : Nat → Int
 | 0 => lo
 | n + 1 => if p lo = true then lo else fstN p (lo + 1) n
def fst (p : Int → Bool) (lo hi : Int) : Int := fstN p lo (hi - lo).toNat
structure Str where
 a : Int
 b : Int
 p : Pc
theorem drop_cons {ps : List Pc} {k : Nat} {p : Pc} (h : ps[k]? = some p) : ps.drop k = p :: ps.drop (k + 1) := by
 obtain ⟨hlt, he⟩ := List.getElem?_eq_some_iff.1 h
 rw [List.drop_eq_getElem_cons hlt, he]
end Go.Wage
