/-
  Plain part of chapter 21: literals, steps, the rules.
  Conditions: those of each theorem.
-/
import Derived.Test.YtjfnkmlnbaianaaGreatZV
namespace Go.Wage
structure Lt where
 du : Int
 wk : Int
 is : Bool
deriving DecidableEq, Inhabited
structure Sg where
 cl : List Lt
 rule : Int
 frm : List Int
instance : Inhabited Sg := ⟨⟨[], 0, []⟩⟩
def negL (l : Lt) : Lt := ⟨l.du, l.wk, !l.is⟩
theorem negL_negL (l : Lt) : negL (negL l) = l := by cases l; simp [negL]
def openL (held cl : List Lt) : List Lt := cl.filter fun l => !held.contains (negL l)
end Go.Wage
