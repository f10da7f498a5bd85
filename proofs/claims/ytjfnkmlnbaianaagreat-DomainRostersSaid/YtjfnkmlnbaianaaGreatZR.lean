/-
  Plain part of chapter 17 and 18: duties, plans, violations.
  Conditions: those of each theorem.
-/
import Derived.Test.YtjfnkmlnbaianaaGreatZA
namespace Go.Wage
structure Du where
 frm : Int
 to_ : Int
 skill : Int
deriving Inhabited
def duB (d : Du) : Bool := decide (0 ≤ d.frm ∧ d.frm < d.to_ ∧ d.to_ ≤ 52596000 ∧ d.to_ - d.frm ≤ 1440 ∧ 0 ≤ d.skill ∧ d.skill ≤ 65535)
def restR (a b : Du) : Int := if duB a && duB b then (if b.frm < a.frm then max (a.frm - b.to_) (-1) else max (b.frm - a.to_) (-1)) else -1
structure Wk where
 name : ByteArray
 skill : Int
 minor : Bool
 wage : Int
 away : List Sp
instance : Inhabited Wk := ⟨⟨ByteArray.empty, 0, false, 0, []⟩⟩
structure Li where
 rest : Int
 week : Int
 night : Sp
 minor : Int
structure Pl where
 zone : Zo
 duties : List Du
 workers : List Wk
 lim : Li
structure Vi where
 kind : Int
 wk : Int
 fst : Int
 snd : Int
deriving DecidableEq, Inhabited
def dStr (p : Pl) (d : Du) : List (Sp × Int) := strZ p.zone.base p.zone.chs d.frm d.to_
def minsD (p : Pl) (d : Du) : List (Int × Int) := splitZ p.zone d.frm d.to_
def nightD (p : Pl) (d : Du) : Int := winZ p.lim.night (dStr p d)
def dutyOk (p : Pl) (d : Du) : Bool := duB d && splitOk p.zone d.frm d.to_
def inB (n m : Int) : Bool := decide (0 ≤ n ∧ n ≤ m)
def validS (l : List Sp) : Bool := decide (nrm l = l)
def meetB (l : List Sp) (s : Sp) : Bool := l.any fun t => prp t && prp s && decide (t.1 < s.2) && decide (s.1 < t.2)
def wkOk (w : Wk) : Bool := inB w.skill 65535 && inB w.wage 1000000 && decide (w.away.length ≤ 400) && validS w.away && w.away.all fun s => decide (0 ≤ s.1) && decide (s.2 ≤ 52596000)
def limOk (l : Li) : Bool := inB l.rest 10080 && inB l.week 20000 && inB l.minor 1500 && inB l.night.1 1440 && inB l.night.2 1440
def validP (p : Pl) : Bool := validZ p.zone && decide (p.duties.length ≤ 24) && decide (p.workers.length ≤ 12) && p.duties.all (dutyOk p) && p.workers.all wkOk && limOk p.lim
def isRo (p : Pl) (ro : List Int) : Bool := decide (ro.length = p.duties.length) && ro.all fun w => decide (-1 ≤ w) && decide (w < p.workers.length)
end Go.Wage
