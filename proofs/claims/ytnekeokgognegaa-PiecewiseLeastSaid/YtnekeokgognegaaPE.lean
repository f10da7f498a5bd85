/-
  Plain: the gross amounts that a net amount remains of, and the least one, by what a gross amount nets.
  Conditions: none beyond the premises of each theorem.
-/
import Derived.Test.YtnekeokgognegaaPD
namespace Go.Wage
/-- x lies on a piece, has a tax in range, and v holds of its net amount -/
def onL (den : Int) (v : Int → Prop) (x : Int) : List Pc → Prop
  | [] => False
  | p :: ps => (p.frm ≤ x ∧ x < nxt ps ∧ -1000000000000 ≤ wh den p x ∧ wh den p x ≤ 1000000000000 ∧ v (nt den p x)) ∨ onL den v x ps
theorem fst_iff {p : Int → Bool} {lo hi : Int} (h : lo < hi) (hm : ∀ x y, lo ≤ x → x ≤ y → y < hi → p x = true → p y = true) {x : Int} (h1 : lo ≤ x) (h2 : x < hi) : p x = true ↔ fst p lo hi ≤ x := by
  have hf := fst_first h hm
  unfold IsFirst at hf
  rw [if_pos h] at hf
  constructor
  · intro hp
    rcases Int.lt_or_le x (fst p lo hi) with h3 | h3
    · rw [hf.2.2.1 x h1 h3] at hp; cases hp
    · exact h3
  · intro h3; exact hf.2.2.2 x h3 h2
theorem fst_between {p q : Int → Bool} {lo hi : Int} (h : lo < hi) (hp : ∀ x y, lo ≤ x → x ≤ y → y < hi → p x = true → p y = true) (hq : ∀ x y, lo ≤ x → x ≤ y → y < hi → q x = true → q y = true) (x : Int) :
    (fst p lo hi ≤ x ∧ x < fst q lo hi) ↔ lo ≤ x ∧ x < hi ∧ p x = true ∧ q x = false := by
  have b1 := fst_bd p (Int.le_of_lt h)
  have b2 := fst_bd q (Int.le_of_lt h)
  constructor
  · rintro ⟨h1, h2⟩
    have h3 : lo ≤ x := by omega
    have h4 : x < hi := by omega
    refine ⟨h3, h4, (fst_iff h hp h3 h4).2 h1, ?_⟩
    cases hqx : q x with
    | false => rfl
    | true => have := (fst_iff h hq h3 h4).1 hqx; omega
  · rintro ⟨h3, h4, h5, h6⟩
    refine ⟨(fst_iff h hp h3 h4).1 h5, ?_⟩
    rcases Int.lt_or_le x (fst q lo hi) with h7 | h7
    · exact h7
    · rw [(fst_iff h hq h3 h4).2 h7] at h6; cases h6
theorem rb_iff (up : Bool) (y : Int) : (reachB up y = true ∧ passB up y = false) ↔ -1000000000000 ≤ y ∧ y ≤ 1000000000000 := by
  cases up <;> simp [reachB, passB] <;> omega
theorem rp_iff (up : Bool) (y b : Int) : (rch up y b = true ∧ pss up y b = false) ↔ y = b := by
  cases up <;> simp [rch, pss] <;> omega
/-- the stretch of a piece -/
theorem str_iff {den : Int} {p : Pc} {hi : Int} (hd : 1 ≤ den) (h : p.frm < hi) (x : Int) : (strA den p hi ≤ x ∧ x < strB den p hi) ↔ p.frm ≤ x ∧ x < hi ∧ -1000000000000 ≤ wh den p x ∧ wh den p x ≤ 1000000000000 := by
  unfold strA strB
  rw [fst_between h (fun x y _ hxy _ => reach_mono hd x y hxy) (fun x y _ hxy _ => pass_mono hd x y hxy), rb_iff]
theorem sol1_iff {den net : Int} {s : Str} (h : StrOK den s) (x : Int) : ((sol1 den net s).1 ≤ x ∧ x < (sol1 den net s).2) ↔ s.a ≤ x ∧ x < s.b ∧ nt den s.p x = net := by
  unfold StrOK okP at h
  unfold sol1
  simp only
  rw [fst_between h.2.2.1 (fun x y _ hxy _ => rch_mono h.1.1 x y hxy) (fun x y _ hxy _ => pss_mono h.1.1 x y hxy), rp_iff]
theorem inS_append {l m : List Sp} {x : Int} : inS (l ++ m) x ↔ inS l x ∨ inS m x := by
  induction l with
  | nil => simp [inS_nil]
  | cons s l ih => rw [List.cons_append, inS_cons, inS_cons, ih, or_assoc]
/-- the spans that solve: before they are made normal -/
theorem sols_on {den net : Int} : ∀ {ps : List Pc}, okPs den ps → ∀ x, inS ((strs den ps).map (sol1 den net)) x ↔ onL den (fun v => v = net) x ps
  | [], _, x => by simp [strs, onL, inS_nil]
  | p :: ps, ⟨h1, h2, h3, h4⟩, x => by
    have hd : 1 ≤ den := by unfold okP at h1; omega
    rw [strs, List.map_append, inS_append, sols_on h4 x, onL]
    refine or_congr ?_ Iff.rfl
    have hst := str_iff hd h2 x
    by_cases hlt : strA den p (nxt ps) < strB den p (nxt ps)
    · rw [if_pos hlt, List.map_singleton, inS_cons, sol1_iff (strs_okA (ps := p :: ps) ⟨h1, h2, h3, h4⟩ _ (by rw [strs, if_pos hlt]; simp))]
      simp only [inS_nil, or_false]
      rw [← and_assoc, hst]
      simp only [and_assoc]
    · rw [if_neg hlt]
      simp only [List.map_nil, inS_nil, false_iff]
      rintro ⟨a, b, c, d, _⟩
      have := hst.2 ⟨a, b, c, d⟩
      omega
theorem inS_prp {l : List Sp} (h : ∀ s ∈ l, -1152921504606846976 ≤ s.1 ∧ s.2 ≤ 1152921504606846976) (x : Int) : inS (l.filter prp) x ↔ inS l x := by
  unfold inS
  constructor
  · rintro ⟨s, hs, h2⟩; exact ⟨s, (List.mem_filter.1 hs).1, h2⟩
  · rintro ⟨s, hs, h2⟩
    refine ⟨s, List.mem_filter.2 ⟨hs, ?_⟩, h2⟩
    have := h s hs
    unfold prp
    simp only [Bool.and_eq_true, decide_eq_true_eq]
    omega
theorem sol1_bd {den net : Int} {s : Str} (h : StrOK den s) : 0 ≤ (sol1 den net s).1 ∧ (sol1 den net s).2 ≤ 1000000000001 := by
  unfold StrOK okP at h
  unfold sol1
  simp only
  have b1 := fst_bd (fun x => rch (decide (s.p.slope ≤ den)) (nt den s.p x) net) (Int.le_of_lt h.2.2.1)
  have b2 := fst_bd (fun x => pss (decide (s.p.slope ≤ den)) (nt den s.p x) net) (Int.le_of_lt h.2.2.1)
  omega
theorem onL_iff {den : Int} {v : Int → Prop} {x : Int} : ∀ {ps : List Pc}, onL den v x ps ↔ ∃ i p, ps[i]? = some p ∧ p.frm ≤ x ∧ x < nxt (ps.drop (i + 1)) ∧ -1000000000000 ≤ wh den p x ∧ wh den p x ≤ 1000000000000 ∧ v (nt den p x)
  | [] => by simp [onL]
  | p :: ps => by
    rw [onL, onL_iff (ps := ps)]
    constructor
    · rintro (h | ⟨i, q, h, h2⟩)
      · exact ⟨0, p, rfl, h⟩
      · exact ⟨i + 1, q, h, h2⟩
    · rintro ⟨i, q, h, h2⟩
      cases i with
      | zero => simp only [List.getElem?_cons_zero, Option.some.injEq] at h; subst h; exact .inl h2
      | succ i => exact .inr ⟨i, q, h, h2⟩
/-- the piece that an argument lies on -/
theorem at_piece {den : Int} {ps : List Pc} (hv : validB den ps = true) {x : Int} {i : Nat} {p : Pc} (hp : ps[i]? = some p) (h1 : p.frm ≤ x) (h2 : x < nxt (ps.drop (i + 1))) : pcAt ps x = p := by
  have hx : 0 ≤ x := by have := valid_piece hv hp; omega
  obtain ⟨g1, g2, g3⟩ := pcAt_spec hv hx
  have hi : i = pix ps x := by
    rcases Nat.lt_trichotomy i (pix ps x) with h | h | h
    · have hlt : i + 1 < ps.length := by have := (List.getElem?_eq_some_iff.1 g1).1; omega
      obtain ⟨q, hq⟩ : ∃ q, ps[i + 1]? = some q := ⟨_, List.getElem?_eq_getElem hlt⟩
      rw [nxt_drop hq] at h2
      by_cases he : i + 1 = pix ps x
      · rw [he, g1, Option.some.injEq] at hq; rw [← hq] at h2; omega
      · have := valid_incr hv (show i + 1 < pix ps x by omega) hq g1; omega
    · exact h
    · have hlt : pix ps x + 1 < ps.length := by have := (List.getElem?_eq_some_iff.1 hp).1; omega
      obtain ⟨q, hq⟩ : ∃ q, ps[pix ps x + 1]? = some q := ⟨_, List.getElem?_eq_getElem hlt⟩
      have g3' := g3 _ hq
      by_cases he : pix ps x + 1 = i
      · rw [he, hp, Option.some.injEq] at hq; rw [← hq] at g3'; omega
      · have := valid_incr hv (show pix ps x + 1 < i by omega) hq hp; omega
  rw [hi, g1, Option.some.injEq] at hp
  exact hp
theorem net_iff {den : Int} {ps : List Pc} (hv : validB den ps = true) {x n : Int} : netR den ps x = (n, 0) ↔ onL den (fun v => v = n) x ps := by
  rw [onL_iff]
  have hrq : ∀ N, roundQ N den 0 = N / den := fun N => by unfold roundQ; simp
  constructor
  · intro h
    unfold netR at h
    split at h
    · rename_i h0
      unfold roundR at h h0
      split at h0
      · rename_i hc
        rw [if_pos hc, hrq] at h
        rw [hrq] at h0
        split at h0
        · rename_i hm
          rw [if_pos hm] at h
          simp only [Prod.mk.injEq, and_true] at h
          have hx : 0 ≤ x ∧ x ≤ 1000000000000 := by simpa [argB] using hc.2.1
          obtain ⟨g1, g2, g3⟩ := pcAt_spec hv hx.1
          have hm' : -1000000000000 ≤ numAt ps x / den ∧ numAt ps x / den ≤ 1000000000000 := by simpa [inMax] using hm
          refine ⟨_, _, g1, g2, ?_, hm'.1, hm'.2, h⟩
          cases hq : ps[pix ps x + 1]? with
          | none => rw [nxt_drop_nil (List.getElem?_eq_none_iff.1 hq)]; omega
          | some q => rw [nxt_drop hq]; exact g3 q hq
        · simp at h0
      · simp at h0
    · rename_i h0
      simp only [Prod.mk.injEq] at h
      omega
  · rintro ⟨i, p, hp, h1, h2, h3, h4, h5⟩
    have hpc := at_piece hv hp h1 h2
    have hb := nxt_bd hv hp
    have hpp := valid_piece hv hp
    have hnum : numAt ps x / den = wh den p x := by unfold numAt wh; rw [hpc]
    have hr : roundR den ps x 0 = (wh den p x, 0) := by
      unfold roundR
      rw [if_pos ⟨hv, by simp [argB]; omega, by simp [modeB]⟩, hrq, hnum, if_pos (inMax_t ⟨h3, h4⟩)]
    unfold netR
    rw [hr]
    simp only [if_true, Prod.mk.injEq, and_true]
    exact h5
theorem onL_mono {den x : Int} {v u : Int → Prop} {ps : List Pc} (h : ∀ n, v n → u n) (ho : onL den v x ps) : onL den u x ps := by
  rw [onL_iff] at ho ⊢
  obtain ⟨i, p, a, b, c, d, e, f⟩ := ho
  exact ⟨i, p, a, b, c, d, e, h _ f⟩
theorem net_some {den : Int} {ps : List Pc} (hv : validB den ps = true) {x : Int} {v : Int → Prop} : onL den v x ps ↔ ∃ n, netR den ps x = (n, 0) ∧ v n := by
  constructor
  · intro h
    rw [onL_iff] at h
    obtain ⟨i, p, a, b, c, d, e, f⟩ := h
    exact ⟨nt den p x, (net_iff hv).2 (onL_iff.2 ⟨i, p, a, b, c, d, e, rfl⟩), f⟩
  · rintro ⟨n, h, hn⟩
    exact onL_mono (fun m hm => by subst hm; exact hn) ((net_iff hv).1 h)
/-- the solutions -/
theorem solve_spec {den net : Int} {ps : List Pc} (hv : validB den ps = true) (x : Int) : inS (nrm (sols den ps net)) x ↔ netR den ps x = (net, 0) := by
  rw [(nrm_spec _).2, inS_prp (fun s hs => by
    unfold sols at hs
    obtain ⟨q, hq, rfl⟩ := List.mem_map.1 hs
    have := sol1_bd (net := net) (strs_okA (valid_okPs hv) q hq)
    omega), sols, sols_on (valid_okPs hv), net_iff hv]
theorem solve_uniq {den net lb : Int} {ps : List Pc} {r : List Sp} (hv : validB den ps = true) (hr : VF lb r) (h : ∀ x, inS r x ↔ netR den ps x = (net, 0)) : nrm (sols den ps net) = r :=
  (nrm_spec _).1.uniq hr fun x => by rw [solve_spec hv, h]
end Go.Wage
