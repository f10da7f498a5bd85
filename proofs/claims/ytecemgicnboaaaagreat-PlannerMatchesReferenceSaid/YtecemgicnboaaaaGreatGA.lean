/-
  Plain part of chapter 21: literals, steps, the rules.
  Conditions: those of each theorem.
-/
import Derived.Test.YtecemgicnboaaaaGreatZV
namespace Go.Wage
structure Lt where
  du : Int
  wk : Int
  is : Bool
deriving DecidableEq, Inhabited
structure Sg where
  cl : List Lt
  rule : Int
  frm : List Int
instance : Inhabited Sg := ⟨⟨[], 0, []⟩⟩
def negL (l : Lt) : Lt := ⟨l.du, l.wk, !l.is⟩
/-- the least wage -/
def cheapL : List Wk → Int
  | [] => 0
  | w :: l => l.foldl (fun c x => if x.wage < c then x.wage else c) w.wage
theorem cheap_snoc (l : List Wk) (w : Wk) : cheapL (l ++ [w]) = if l.length = 0 ∨ w.wage < cheapL l then w.wage else cheapL l := by
  cases l with
  | nil => simp [cheapL]
  | cons x l => simp [cheapL]
def properB (p : Pl) (l : Lt) : Bool := decide (0 ≤ l.du) && decide (l.du < p.duties.length) && decide (0 ≤ l.wk) && decide (l.wk < p.workers.length)
theorem properB_iff {p : Pl} {l : Lt} : properB p l = true ↔ 0 ≤ l.du ∧ l.du < p.duties.length ∧ 0 ≤ l.wk ∧ l.wk < p.workers.length := by
  unfold properB
  simp only [Bool.and_eq_true, decide_eq_true_eq]
  omega
def rowB (cl : List Lt) (i : Nat) : Bool := decide (cl.getD i default = ⟨(cl.getD 0 default).du, i, true⟩)
def someB (p : Pl) (s : Sg) : Bool := decide (s.frm.length = 0) && decide (0 < p.duties.length) && decide (s.cl.length = p.workers.length) && (List.range s.cl.length).all (rowB s.cl)
def oneB (s : Sg) : Bool := decide (s.frm.length = 0) && decide (s.cl.length = 2) && (!(s.cl.getD 0 default).is && !(s.cl.getD 1 default).is && decide ((s.cl.getD 0 default).du = (s.cl.getD 1 default).du) && decide ((s.cl.getD 0 default).wk < (s.cl.getD 1 default).wk))
/-- the roster of a denial -/
def denL : List Lt → List Int → Option (List Int)
  | [], ro => some ro
  | l :: cl, ro => if !l.is && decide (ro.getD l.du.toNat default < 0) then denL cl (ro.set l.du.toNat l.wk) else none
def denS (p : Pl) (s : Sg) : Option (List Int) := if decide (s.frm.length = 0) && decide (0 < s.cl.length) then denL s.cl (List.replicate p.duties.length (-1)) else none
def violB (p : Pl) (ro : List Int) : Bool := (List.range p.workers.length).any fun w => !(violW p w (mineR ro w)).isEmpty
theorem violB_iff {p : Pl} {ro : List Int} : violB p ro = true ↔ badP p ro ≠ [] := by
  rw [ne_eq, badP_nil, violB, List.any_eq_true]
  constructor
  · rintro ⟨w, hw, h⟩ hn
    rw [hn w (List.mem_range.1 hw)] at h
    cases h
  · intro h
    apply Classical.byContradiction
    intro hn
    refine h fun w hw => ?_
    apply Classical.byContradiction
    intro h2
    exact hn ⟨w, List.mem_range.2 hw, by cases hv : violW p w (mineR ro w) with | nil => exact absurd hv h2 | cons _ _ => rfl⟩
/-- what a partial roster costs at least -/
def fullP (p : Pl) : List Int → List Du → Int
  | w :: ro, d :: ds => (if 0 ≤ w then (p.workers.getD w.toNat default).wage else cheapL p.workers) * (d.to_ - d.frm) + fullP p ro ds
  | _, _ => 0
def badS (p : Pl) (s : Sg) : Bool := match denS p s with
  | some ro => violB p ro
  | none => false
def costS (p : Pl) (b : Int) (s : Sg) : Bool := match denS p s with
  | some ro => decide (b ≤ fullP p ro p.duties)
  | none => false
def openL (held cl : List Lt) : List Lt := cl.filter fun l => !held.contains (negL l)
def sameL (l : List Lt) : Bool := l.all fun x => decide (x = l.getD 0 default)
def unitF (log : List Sg) : List Int → List Lt → Bool
  | [], _ => false
  | k :: ks, held =>
    if openL held (log.getD k.toNat default).cl = [] then decide (ks.length = 0)
    else sameL (openL held (log.getD k.toNat default).cl) && unitF log ks ((openL held (log.getD k.toNat default).cl).getD 0 default :: held)
def unitB (log : List Sg) (k : Int) (s : Sg) : Bool := (s.frm.all fun j => decide (0 ≤ j) && decide (j < k)) && unitF log s.frm (s.cl.map negL)
def ruleB (p : Pl) (b : Int) (log : List Sg) (k : Int) (s : Sg) : Bool :=
  if s.rule = 1 then someB p s else if s.rule = 2 then oneB s else if s.rule = 3 then badS p s else if s.rule = 4 then costS p b s else if s.rule = 5 then unitB log k s else false
def follB (p : Pl) (b : Int) (log : List Sg) (k : Nat) : Bool := (log.getD k default).cl.all (properB p) && ruleB p b log k (log.getD k default)
end Go.Wage
