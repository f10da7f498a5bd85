/-
  Plain: net amounts along a stretch, the spans that solve, the least one.
  Conditions: none beyond the premises of each theorem.
-/
import Derived.Test.YtnekeokgognegaaPA
import Derived.Test.YtnekeokgognegaaPC
namespace Go.Wage
def nt (den : Int) (p : Pc) (x : Int) : Int := x - wh den p x
def rch (up : Bool) (v b : Int) : Bool := match up with | true => decide (b ≤ v) | false => decide (v ≤ b)
def pss (up : Bool) (v b : Int) : Bool := match up with | true => decide (b < v) | false => decide (v < b)
def StrOK (den : Int) (s : Str) : Prop := okP den s.p ∧ s.p.frm ≤ s.a ∧ s.a < s.b ∧ s.b ≤ 1000000000001
theorem fst_bd (p : Int → Bool) {lo hi : Int} (h : lo ≤ hi) : lo ≤ fst p lo hi ∧ fst p lo hi ≤ hi := by
  obtain ⟨a, b, _, _⟩ := fstN_first (p := p) (hi - lo).toNat lo
  unfold fst
  omega
def okPs (den : Int) : List Pc → Prop
  | [] => True
  | p :: ps => okP den p ∧ p.frm < nxt ps ∧ nxt ps ≤ 1000000000001 ∧ okPs den ps
theorem okPs_of {den : Int} : ∀ {ps : List Pc}, (∀ i p, ps[i]? = some p → okP den p ∧ p.frm < nxt (ps.drop (i + 1)) ∧ nxt (ps.drop (i + 1)) ≤ 1000000000001) → okPs den ps
  | [], _ => trivial
  | p :: _ps, h => ⟨(h 0 p rfl).1, (h 0 p rfl).2.1, (h 0 p rfl).2.2, okPs_of fun i q hq => h (i + 1) q hq⟩
theorem valid_okPs {den : Int} {ps : List Pc} (h : validB den ps = true) : okPs den ps :=
  okPs_of fun _ _ hp => ⟨valid_okP h hp, nxt_bd h hp⟩
theorem strs_okA {den : Int} : ∀ {ps : List Pc}, okPs den ps → ∀ s ∈ strs den ps, StrOK den s
  | [], _, s, hs => by simp [strs] at hs
  | p :: ps, ⟨h1, h2, h3, h4⟩, s, hs => by
    rw [strs, List.mem_append] at hs
    rcases hs with hs | hs
    · split at hs
      · rename_i hlt
        simp only [List.mem_singleton] at hs
        subst hs
        have b1 := fst_bd (fun x => reachB (decide (p.slope ≥ 0)) (wh den p x)) (Int.le_of_lt h2)
        have b2 := fst_bd (fun x => passB (decide (p.slope ≥ 0)) (wh den p x)) (Int.le_of_lt h2)
        unfold strA strB at hlt
        unfold StrOK strA strB
        simp only
        refine ⟨h1, b1.1, hlt, by omega⟩
      · simp at hs
    · exact strs_okA h4 s hs
theorem strs_ok {den : Int} {ps : List Pc} (h : validB den ps = true) {k : Nat} {s : Str} (hs : (strs den ps)[k]? = some s) : StrOK den s := strs_okA (valid_okPs h) s (List.mem_of_getElem? hs)
theorem strs_len {den : Int} : ∀ ps : List Pc, (strs den ps).length ≤ ps.length
  | [] => Nat.le_refl _
  | p :: ps => by
    have := strs_len (den := den) ps
    rw [strs, List.length_append, List.length_cons]
    split <;> simp <;> omega
/-- the net amount along a piece does not shrink where the slope is at most the denominator, and does not grow elsewhere -/
theorem nt_up {den : Int} {p : Pc} (hd : 1 ≤ den) (h : p.slope ≤ den) {x y : Int} (hxy : x ≤ y) : nt den p x ≤ nt den p y := by
  have e : (p.at_ + p.slope * (y - p.frm)) ≤ (p.at_ + p.slope * (x - p.frm)) + (y - x) * den := by
    have h1 : p.slope * (y - x) ≤ den * (y - x) := Int.mul_le_mul_of_nonneg_right h (by omega)
    have h2 : p.slope * (y - p.frm) = p.slope * (x - p.frm) + p.slope * (y - x) := by rw [← Int.mul_add]; congr 1; omega
    rw [h2, Int.mul_comm (y - x)]
    omega
  have e2 := Int.ediv_le_ediv (c := den) (by omega) e
  rw [Int.add_mul_ediv_right _ _ (by omega)] at e2
  unfold nt wh
  omega
theorem nt_down {den : Int} {p : Pc} (hd : 1 ≤ den) (h : den ≤ p.slope) {x y : Int} (hxy : x ≤ y) : nt den p y ≤ nt den p x := by
  have e : (p.at_ + p.slope * (x - p.frm)) + (y - x) * den ≤ (p.at_ + p.slope * (y - p.frm)) := by
    have h1 : den * (y - x) ≤ p.slope * (y - x) := Int.mul_le_mul_of_nonneg_right h (by omega)
    have h2 : p.slope * (y - p.frm) = p.slope * (x - p.frm) + p.slope * (y - x) := by rw [← Int.mul_add]; congr 1; omega
    rw [h2, Int.mul_comm (y - x)]
    omega
  have e2 := Int.ediv_le_ediv (c := den) (by omega) e
  rw [Int.add_mul_ediv_right _ _ (by omega)] at e2
  unfold nt wh
  omega
theorem rch_mono {den net : Int} {p : Pc} (hd : 1 ≤ den) (x y : Int) (hxy : x ≤ y) (h : rch (decide (p.slope ≤ den)) (nt den p x) net = true) : rch (decide (p.slope ≤ den)) (nt den p y) net = true := by
  by_cases hs : p.slope ≤ den
  · simp only [hs, decide_true, rch, decide_eq_true_eq] at h ⊢
    have := nt_up hd hs hxy
    omega
  · simp only [hs, decide_false, rch, decide_eq_true_eq] at h ⊢
    have := nt_down (p := p) hd (by omega) hxy
    omega
theorem pss_mono {den net : Int} {p : Pc} (hd : 1 ≤ den) (x y : Int) (hxy : x ≤ y) (h : pss (decide (p.slope ≤ den)) (nt den p x) net = true) : pss (decide (p.slope ≤ den)) (nt den p y) net = true := by
  by_cases hs : p.slope ≤ den
  · simp only [hs, decide_true, pss, decide_eq_true_eq] at h ⊢
    have := nt_up hd hs hxy
    omega
  · simp only [hs, decide_false, pss, decide_eq_true_eq] at h ⊢
    have := nt_down (p := p) hd (by omega) hxy
    omega
/-- the span of a stretch that solves -/
def sol1 (den net : Int) (s : Str) : Sp := (fst (fun x => rch (decide (s.p.slope ≤ den)) (nt den s.p x) net) s.a s.b, fst (fun x => pss (decide (s.p.slope ≤ den)) (nt den s.p x) net) s.a s.b)
def sols (den : Int) (ps : List Pc) (net : Int) : List Sp := (strs den ps).map (sol1 den net)
theorem sols_take {den net : Int} {ps : List Pc} {k : Nat} {s : Str} (h : (strs den ps)[k]? = some s) : (sols den ps net).take (k + 1) = (sols den ps net).take k ++ [sol1 den net s] := by
  have h' : (sols den ps net)[k]? = some (sol1 den net s) := by unfold sols; simp [h]
  obtain ⟨hlt, he⟩ := List.getElem?_eq_some_iff.1 h'
  rw [List.take_succ_eq_append_getElem hlt, he]
/-- the least one of a stretch -/
def lea1 (den net : Int) (s : Str) : Option Int :=
  if net ≤ nt den s.p s.a then some s.a
  else if s.p.slope ≤ den ∧ fst (fun x => decide (net ≤ nt den s.p x)) s.a s.b < s.b then some (fst (fun x => decide (net ≤ nt den s.p x)) s.a s.b) else none
def lea (den net : Int) : List Str → Int × Int
  | [] => (0, 301)
  | s :: l => match lea1 den net s with
    | some x => (x, 0)
    | none => lea den net l
end Go.Wage
