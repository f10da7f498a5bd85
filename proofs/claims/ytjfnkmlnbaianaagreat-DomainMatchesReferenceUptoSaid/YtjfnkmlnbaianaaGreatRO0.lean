/-
  Plans as abstract values; validity, in parts.
  Conditions: those of each theorem.
-/
import Derived.Test.YtjfnkmlnbaianaaGreatHS
import Derived.Test.YtjfnkmlnbaianaaGreatSQ
namespace Go.Proofs.YtjfnkmlnbaianaaGreat
open Go.E2 Go.Wage
theorem getD_at {α : Type} [Inhabited α] {l : List α} {j : Nat} (h : j < l.length) : l.getD j default = l[j] := by simp [List.getD, h]
def wkav (w : Wk) : AV := .agg [.v (.string w.name), I w.skill, B w.minor, I w.wage, .sl 2 (w.away.map spav)]
def pcs (p : Pl) : List AV := [.v (.string p.zone.name), I p.zone.base, .sl 2 (p.zone.chs.map chav), .sl 3 (p.duties.map duav), .sl 5 (p.workers.map wkav), I p.lim.rest, I p.lim.week, I p.lim.night.1, I p.lim.night.2, I p.lim.minor]
structure Small (p : Pl) : Prop where
 ch : p.zone.chs.length ≤ 1000
 du : p.duties.length ≤ 1000
 wk : p.workers.length ≤ 1000
 aw : ∀ w ∈ p.workers, w.away.length ≤ 1000
theorem all_take {α : Type} [Inhabited α] {f : α → Bool} {l : List α} {k : Nat} (h : (l.take k).all f = true) (hk : k < l.length) (hf : f (l.getD k default) = true) : (l.take (k + 1)).all f = true := by
 rw [List.take_succ_eq_append_getElem hk, List.all_append, h]
 simp only [List.getD, List.getElem?_eq_getElem hk, Option.getD_some] at hf
 simp [hf]
theorem validP_iff {p : Pl} : validP p = true ↔ validZ p.zone = true ∧ p.duties.length ≤ 24 ∧ p.workers.length ≤ 12 ∧ p.duties.all (dutyOk p) = true ∧ p.workers.all wkOk = true ∧ limOk p.lim = true := by
 unfold validP
 simp only [Bool.and_eq_true, decide_eq_true_eq]
 grind
def awOk (s : Sp) : Bool := decide (0 ≤ s.1) && decide (s.2 ≤ 52596000)
theorem wkOk_iff {w : Wk} : wkOk w = true ↔ inB w.skill 65535 = true ∧ inB w.wage 1000000 = true ∧ w.away.length ≤ 400 ∧ validS w.away = true ∧ w.away.all awOk = true := by
 unfold wkOk
 simp only [Bool.and_eq_true, decide_eq_true_eq]
 exact ⟨fun h => ⟨h.1.1.1.1, h.1.1.1.2, h.1.1.2, h.1.2, h.2⟩, fun h => ⟨⟨⟨⟨h.1, h.2.1⟩, h.2.2.1⟩, h.2.2.2.1⟩, h.2.2.2.2⟩⟩
theorem noP {p : Pl} (h : ¬ validP p = true) : (AV.v (.bool false)) = B (validP p) := congrArg B (Bool.eq_false_iff.2 h).symm
theorem isRo_iff {p : Pl} {ro : List Int} : isRo p ro = true ↔ ro.length = p.duties.length ∧ ∀ w ∈ ro, -1 ≤ w ∧ w < p.workers.length := by
 unfold isRo
 simp only [Bool.and_eq_true, decide_eq_true_eq, List.all_eq_true]
end Go.Proofs.YtjfnkmlnbaianaaGreat
