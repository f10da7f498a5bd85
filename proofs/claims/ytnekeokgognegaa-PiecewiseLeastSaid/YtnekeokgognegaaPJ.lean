/-
  Plain: the reference's Solve and Least answer as the program's.
  Conditions: none beyond the premises of each theorem.
-/
import Derived.Test.YtnekeokgognegaaPI
namespace Go.Wage
theorem meet_iff (a b : Int × Int) (d : Int) : ((meetR a b).1 ≤ d ∧ d ≤ (meetR a b).2) ↔ (a.1 ≤ d ∧ d ≤ a.2) ∧ (b.1 ≤ d ∧ d ≤ b.2) := by
  unfold meetR
  dsimp only
  split <;> split <;> omega
theorem neg_div_le {a k d : Int} (hk : 0 < k) : -(-a / k) ≤ d ↔ a ≤ k * d := by
  rw [show (-(-a / k) ≤ d) ↔ (-d ≤ -a / k) by omega, Int.le_ediv_iff_mul_le hk, Int.neg_mul, Int.mul_comm d k]
  omega
theorem le_div {a k d : Int} (hk : 0 < k) : d ≤ a / k ↔ k * d ≤ a := by
  rw [Int.le_ediv_iff_mul_le hk, Int.mul_comm]
theorem betw_iff (u k low high n d : Int) : ((betwR u k low high n).1 ≤ d ∧ d ≤ (betwR u k low high n).2) ↔ 0 ≤ d ∧ d ≤ n ∧ low ≤ u + k * d ∧ u + k * d ≤ high := by
  unfold betwR
  by_cases hk : k = 0
  · subst hk
    rw [if_pos rfl, Int.zero_mul]
    split <;> dsimp only <;> omega
  · rw [if_neg hk]
    by_cases hp : k > 0
    · rw [if_pos hp, meet_iff]
      dsimp only
      rw [neg_div_le hp, le_div hp]
      omega
    · rw [if_neg hp, meet_iff]
      dsimp only
      rw [neg_div_le (show 0 < -k by omega), le_div (show 0 < -k by omega), Int.neg_mul]
      omega
theorem nxt_last (ps : List Pc) (i : Nat) : nxt (ps.drop (i + 1)) = lastOf ps i + 1 := by
  unfold lastOf
  cases hq : ps[i + 1]? with
  | none =>
    rw [List.drop_eq_nil_of_le (List.getElem?_eq_none_iff.1 hq)]
    rfl
  | some q =>
    obtain ⟨h1, h2⟩ := List.getElem?_eq_some_iff.1 hq
    rw [List.drop_eq_getElem_cons h1, h2]
    show q.frm = q.frm - 1 + 1
    omega
theorem piece_iff {den net : Int} {ps : List Pc} {i : Nat} {p : Pc} (hv : validB den ps = true) (hp : ps[i]? = some p) (hn : -1000000000000 ≤ net ∧ net ≤ 1000000000000) (b : Bool) (d : Int) :
    ((pieceR den ps i p net b).1 ≤ d ∧ d ≤ (pieceR den ps i p net b).2) ↔ 0 ≤ d ∧ p.frm + d < nxt (ps.drop (i + 1)) ∧ -1000000000000 ≤ wh den p (p.frm + d) ∧ wh den p (p.frm + d) ≤ 1000000000000 ∧ (if b = true then nt den p (p.frm + d) = net else net ≤ nt den p (p.frm + d)) := by
  have ho := valid_okP hv hp
  unfold okP at ho
  have hd : 0 < den := by omega
  have hl := lastOf_bd hv hp
  unfold pieceR
  rw [meet_iff, betw_iff, betw_iff, nxt_last]
  unfold nt wh
  rw [show p.frm + d - p.frm = d by omega]
  generalize hN : p.at_ + p.slope * d = N
  have e2 : p.at_ - den * p.frm + den * net + (p.slope - den) * d = N - den * (p.frm + d - net) := by
    rw [← hN, Int.sub_mul, Int.mul_sub, Int.mul_add]
    omega
  rw [e2]
  have k1 : -1000000000000 ≤ N / den ↔ -1000000000000 * den ≤ N := Int.le_ediv_iff_mul_le hd
  have k2 : N / den ≤ 1000000000000 ↔ N ≤ 1000000000000 * den + den - 1 := by
    have := Int.ediv_lt_iff_lt_mul (a := N) (b := 1000000000001) hd
    rw [show (1000000000001 : Int) * den = 1000000000000 * den + den by omega] at this
    omega
  have k3 : ∀ c : Int, c ≤ N / den ↔ den * c ≤ N := fun c => le_div hd
  have k4 : N / den ≤ p.frm + d - net ↔ N - den * (p.frm + d - net) ≤ den - 1 := by
    have := Int.ediv_lt_iff_lt_mul (a := N) (b := p.frm + d - net + 1) hd
    rw [Int.add_mul, Int.one_mul, Int.mul_comm (p.frm + d - net) den] at this
    omega
  have k5 := k3 (p.frm + d - net)
  constructor
  · rintro ⟨⟨h1, h2, h3, h4⟩, ⟨_, _, h5, h6⟩⟩
    refine ⟨h1, by omega, k1.2 h3, k2.2 h4, ?_⟩
    have := k4.2 h6
    cases b with
    | true =>
      rw [if_pos rfl] at h5 ⊢
      have := k5.2 (by omega)
      omega
    | false =>
      rw [if_neg (by simp)]
      omega
  · rintro ⟨h1, h2, h3, h4, h5⟩
    have g1 := k1.1 h3
    have g2 := k2.1 h4
    refine ⟨⟨h1, by omega, g1, g2⟩, ⟨h1, by omega, ?_, ?_⟩⟩
    · cases b with
      | true =>
        rw [if_pos rfl] at h5 ⊢
        have := k5.1 (by omega)
        omega
      | false =>
        rw [if_neg (by simp)]
        have m1 : den * (p.frm + d - net) ≤ den * 2000000000000 := Int.mul_le_mul_of_nonneg_left (by omega) (by omega)
        have m2 : -1000000000000000000 ≤ -1000000000000 * den := by omega
        omega
    · refine k4.1 ?_
      cases b with
      | true => rw [if_pos rfl] at h5; omega
      | false => rw [if_neg (by simp)] at h5; omega
/-- the reference's list of spans, of the first k pieces -/
def spanI (den : Int) (ps : List Pc) (net : Int) (i : Nat) : Option Sp :=
  match ps[i]? with
  | none => none
  | some p => if (pieceR den ps i p net true).1 ≤ (pieceR den ps i p net true).2 then some (p.frm + (pieceR den ps i p net true).1, p.frm + (pieceR den ps i p net true).2 + 1) else none
def outR (den : Int) (ps : List Pc) (net : Int) (k : Nat) : List Sp := (List.range k).filterMap (spanI den ps net)
theorem outR_succ (den : Int) (ps : List Pc) (net : Int) (k : Nat) : outR den ps net (k + 1) = outR den ps net k ++ (match spanI den ps net k with | some s => [s] | none => []) := by
  unfold outR
  rw [List.range_succ, List.filterMap_append]
  congr 1
  cases h : spanI den ps net k <;> simp [h]
theorem outR_len (den : Int) (ps : List Pc) (net : Int) (k : Nat) : (outR den ps net k).length ≤ k := by
  have := List.length_filterMap_le (spanI den ps net) (List.range k)
  simpa [outR] using this
theorem mem_outR {den net : Int} {ps : List Pc} {s : Sp} (h : s ∈ outR den ps net ps.length) : ∃ i p, ps[i]? = some p ∧ (pieceR den ps i p net true).1 ≤ (pieceR den ps i p net true).2 ∧ s = (p.frm + (pieceR den ps i p net true).1, p.frm + (pieceR den ps i p net true).2 + 1) := by
  unfold outR at h
  obtain ⟨i, _, hi⟩ := List.mem_filterMap.1 h
  unfold spanI at hi
  cases hp : ps[i]? with
  | none => rw [hp] at hi; cases hi
  | some p =>
    rw [hp] at hi
    dsimp only at hi
    split at hi
    · cases hi
      exact ⟨i, p, hp, by assumption, rfl⟩
    · cases hi
theorem outR_in {den net : Int} {ps : List Pc} (hv : validB den ps = true) (hn : -1000000000000 ≤ net ∧ net ≤ 1000000000000) (x : Int) : inS (outR den ps net ps.length) x ↔ netR den ps x = (net, 0) := by
  rw [net_iff hv, onL_iff]
  constructor
  · rintro ⟨s, hs, h1, h2⟩
    obtain ⟨i, p, hp, hle, rfl⟩ := mem_outR hs
    dsimp only at h1 h2
    have := (piece_iff hv hp hn true (x - p.frm)).1 ⟨by omega, by omega⟩
    rw [show p.frm + (x - p.frm) = x by omega, if_pos rfl] at this
    exact ⟨i, p, hp, by omega, this.2.1, this.2.2.1, this.2.2.2.1, this.2.2.2.2⟩
  · rintro ⟨i, p, hp, h1, h2, h3, h4, h5⟩
    have := (piece_iff hv hp hn true (x - p.frm)).2 (by
      rw [show p.frm + (x - p.frm) = x by omega, if_pos rfl]
      exact ⟨by omega, h2, h3, h4, h5⟩)
    refine ⟨(p.frm + (pieceR den ps i p net true).1, p.frm + (pieceR den ps i p net true).2 + 1), List.mem_filterMap.2 ⟨i, ?_, ?_⟩, ?_⟩
    · simpa using (List.getElem?_eq_some_iff.1 hp).1
    · unfold spanI
      rw [hp]
      dsimp only
      rw [if_pos (by omega)]
    · dsimp only
      omega
theorem outR_prp {den net : Int} {ps : List Pc} (hv : validB den ps = true) (hn : -1000000000000 ≤ net ∧ net ≤ 1000000000000) {s : Sp} (hs : s ∈ outR den ps net ps.length) : prp s = true := by
  obtain ⟨i, p, hp, hle, rfl⟩ := mem_outR hs
  have h1 := net_range ((outR_in hv hn (p.frm + (pieceR den ps i p net true).1)).1 ⟨_, hs, by dsimp only; omega, by dsimp only; omega⟩)
  have h2 := net_range ((outR_in hv hn (p.frm + (pieceR den ps i p net true).2)).1 ⟨_, hs, by dsimp only; omega, by dsimp only; omega⟩)
  simp only [prp, Bool.and_eq_true, decide_eq_true_eq]
  omega
theorem outR_nrm {den net : Int} {ps : List Pc} (hv : validB den ps = true) (hn : -1000000000000 ≤ net ∧ net ≤ 1000000000000) : nrm (outR den ps net ps.length) = nrm (sols den ps net) := by
  refine (solve_uniq hv (nrm_spec _).1 fun x => ?_).symm
  rw [(nrm_spec _).2, List.filter_eq_self.2 (fun s hs => outR_prp hv hn hs), outR_in hv hn]
/-! Least -/
theorem ref_hit {den net : Int} {ps : List Pc} {i : Nat} {p : Pc} (hv : validB den ps = true) (hn : -1000000000000 ≤ net ∧ net ≤ 1000000000000) (hp : ps[i]? = some p)
    (hno : ∀ j q, j < i → ps[j]? = some q → ¬ (pieceR den ps j q net false).1 ≤ (pieceR den ps j q net false).2) (hle : (pieceR den ps i p net false).1 ≤ (pieceR den ps i p net false).2) :
    onL den (fun v => net ≤ v) (p.frm + (pieceR den ps i p net false).1) ps ∧ ∀ y, onL den (fun v => net ≤ v) y ps → p.frm + (pieceR den ps i p net false).1 ≤ y := by
  have h0 := (piece_iff hv hp hn false (pieceR den ps i p net false).1).1 ⟨by omega, hle⟩
  rw [if_neg (by simp)] at h0
  constructor
  · rw [onL_iff]
    exact ⟨i, p, hp, by omega, h0.2.1, h0.2.2.1, h0.2.2.2.1, h0.2.2.2.2⟩
  · intro y hy
    rw [onL_iff] at hy
    obtain ⟨j, q, hq, g1, g2, g3, g4, g5⟩ := hy
    have hd := (piece_iff hv hq hn false (y - q.frm)).2 (by
      rw [show q.frm + (y - q.frm) = y by omega, if_neg (by simp)]
      exact ⟨by omega, g2, g3, g4, g5⟩)
    rcases Nat.lt_trichotomy j i with h | h | h
    · exact absurd (by omega) (hno j q h hq)
    · subst h
      rw [hp] at hq
      cases hq
      omega
    · have : nxt (ps.drop (i + 1)) ≤ q.frm := by
        have hi1 : i + 1 < ps.length := by have := (List.getElem?_eq_some_iff.1 hq).1; omega
        obtain ⟨r, hr⟩ : ∃ r, ps[i + 1]? = some r := ⟨_, List.getElem?_eq_getElem hi1⟩
        obtain ⟨_, e⟩ := List.getElem?_eq_some_iff.1 hr
        rw [List.drop_eq_getElem_cons hi1, e]
        show r.frm ≤ q.frm
        rcases Nat.lt_or_ge (i + 1) j with h2 | h2
        · have := valid_incr hv h2 hr hq
          omega
        · have e3 : i + 1 = j := by omega
          rw [e3, hq] at hr
          cases hr
          omega
      omega
theorem ref_miss {den net : Int} {ps : List Pc} (hv : validB den ps = true) (hn : -1000000000000 ≤ net ∧ net ≤ 1000000000000)
    (hno : ∀ j q, j < ps.length → ps[j]? = some q → ¬ (pieceR den ps j q net false).1 ≤ (pieceR den ps j q net false).2) (y : Int) : ¬ onL den (fun v => net ≤ v) y ps := by
  intro hy
  rw [onL_iff] at hy
  obtain ⟨j, q, hq, g1, g2, g3, g4, g5⟩ := hy
  have hd := (piece_iff hv hq hn false (y - q.frm)).2 (by
    rw [show q.frm + (y - q.frm) = y by omega, if_neg (by simp)]
    exact ⟨by omega, g2, g3, g4, g5⟩)
  exact hno j q (List.getElem?_eq_some_iff.1 hq).1 hq (by omega)
theorem lea_eq {den net x : Int} {ps : List Pc} (hk : okPs den ps) (h1 : onL den (fun v => net ≤ v) x ps) (h2 : ∀ y, onL den (fun v => net ≤ v) y ps → x ≤ y) : lea den net (strs den ps) = (x, 0) := by
  rcases lea_spec (net := net) hk with ⟨a, b, c⟩ | ⟨_, b⟩
  · have := h2 _ b
    by_cases h : x < (lea den net (strs den ps)).1
    · exact absurd h1 (c x h)
    · exact Prod.ext (by omega) a
  · exact absurd h1 (b x)
theorem lea_none {den net : Int} {ps : List Pc} (hk : okPs den ps) (h : ∀ y, ¬ onL den (fun v => net ≤ v) y ps) : lea den net (strs den ps) = (0, 301) := by
  rcases lea_spec (net := net) hk with ⟨_, b, _⟩ | ⟨a, _⟩
  · exact absurd b (h _)
  · exact a
end Go.Wage
