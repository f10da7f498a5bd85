/-
  Plain arithmetic and lists: quotients, first numbers, pieces of a function, rounding, stretches.
  Conditions: none beyond the premises of each theorem.
-/
import Derived.Below
namespace Go.Wage
def fdiv (a b : Int) : Int := if a.tmod b < 0 then a.tdiv b - 1 else a.tdiv b
theorem tdiv_bd (a b : Int) (hb : 1 ≤ b) (h : -1000000000000000000 * 9 ≤ a ∧ a ≤ 1000000000000000000 * 9) : -1000000000000000000 * 9 ≤ a.tdiv b ∧ a.tdiv b ≤ 1000000000000000000 * 9 := by
  rcases Int.le_total 0 a with h0 | h0
  · rw [Int.tdiv_eq_ediv_of_nonneg h0]
    have h1 := Int.ediv_nonneg h0 (by omega : 0 ≤ b)
    have h2 := Int.ediv_le_self b h0
    omega
  · have e : a = -(-a) := by omega
    rw [e, Int.neg_tdiv, Int.tdiv_eq_ediv_of_nonneg (by omega)]
    have h1 := Int.ediv_nonneg (by omega : 0 ≤ -a) (by omega : 0 ≤ b)
    have h2 := Int.ediv_le_self b (by omega : 0 ≤ -a)
    omega
def IsFirst (p : Int → Bool) (lo hi r : Int) : Prop :=
  if lo < hi then lo ≤ r ∧ r ≤ hi ∧ (∀ x, lo ≤ x → x < r → p x = false) ∧ (∀ x, r ≤ x → x < hi → p x = true) else r = lo
structure Pc where
  frm : Int
  at_ : Int
  slope : Int
  deriving Inhabited, DecidableEq
def okI (ps : List Pc) (i : Nat) : Bool :=
  match ps[i]? with
  | none => false
  | some p => (if i = 0 then decide (p.frm = 0) else match ps[i - 1]? with | some q => decide (q.frm < p.frm) && decide (p.frm ≤ 1000000000000) | none => false) &&
    (decide (-1000000 ≤ p.slope) && decide (p.slope ≤ 1000000) && decide (-1000000000000000000 ≤ p.at_) && decide (p.at_ ≤ 1000000000000000000))
def validB (den : Int) (ps : List Pc) : Bool :=
  decide (1 ≤ den) && decide (den ≤ 1000000) && decide (1 ≤ ps.length) && decide (ps.length ≤ 64) && (List.range ps.length).all (okI ps)
theorem validB_false {den : Int} {ps : List Pc} {k : Nat} (hk : k < ps.length) (h : okI ps k = false) : validB den ps = false := by
  have : (List.range ps.length).all (okI ps) = false := by
    rw [List.all_eq_false]
    exact ⟨k, by simpa using hk, by simp [h]⟩
  simp [validB, this]
theorem validB_head {den : Int} {ps : List Pc} (h : den < 1 ∨ 1000000 < den ∨ (ps.length : Int) < 1 ∨ 64 < (ps.length : Int)) : validB den ps = false := by
  unfold validB
  rcases h with h | h | h | h
  · simp [show ¬ 1 ≤ den by omega]
  · simp [show ¬ den ≤ 1000000 by omega]
  · simp [show ¬ 1 ≤ ps.length by omega]
  · simp [show ¬ ps.length ≤ 64 by omega]
theorem all_snoc {ps : List Pc} {k : Nat} (h : (List.range k).all (okI ps) = true) (h' : okI ps k = true) : (List.range (k + 1)).all (okI ps) = true := by
  rw [List.range_succ, List.all_append, h]; simp [h']
theorem okI_iff {ps : List Pc} {k : Nat} {p q : Pc} (hp : ps[k]? = some p) (hq : ps[((k : Int) - 1).toNat]? = some q) :
    okI ps k = true ↔ (((k : Int) = 0 → p.frm = 0) ∧ (¬ (k : Int) = 0 → q.frm < p.frm ∧ p.frm ≤ 1000000000000) ∧ -1000000 ≤ p.slope ∧ p.slope ≤ 1000000 ∧ -1000000000000000000 ≤ p.at_ ∧ p.at_ ≤ 1000000000000000000) := by
  unfold okI
  rw [hp]
  by_cases h0 : k = 0
  · simp [h0, and_assoc]
  · rw [show ((k : Int) - 1).toNat = k - 1 by omega] at hq
    simp [h0, hq, and_assoc]
theorem fdiv_eq (a b : Int) (hb : 1 ≤ b) : fdiv a b = a / b := by
  unfold fdiv
  by_cases h0 : 0 ≤ a
  · rw [if_neg (by have := Int.tmod_nonneg b h0; omega), Int.tdiv_eq_ediv_of_nonneg h0]
  · have e : a.tdiv b = if b ∣ a then a / b else a / b + 1 := by
      rw [Int.tdiv_eq_ediv]
      have : ¬ 0 ≤ a := h0
      by_cases hd : b ∣ a
      · simp [hd]
      · simp [hd, h0, Int.sign_eq_one_of_pos (show 0 < b by omega)]
    by_cases hd : b ∣ a
    · have : a.tmod b = 0 := Int.tmod_eq_zero_of_dvd hd
      rw [if_neg (by omega), e, if_pos hd]
    · have hm : a.tmod b < 0 := by
        have hne : a.tmod b ≠ 0 := fun h => hd (Int.dvd_of_tmod_eq_zero h)
        have : a.tmod b = -((-a).tmod b) := by rw [Int.neg_tmod]; omega
        have := Int.tmod_nonneg b (show 0 ≤ -a by omega)
        omega
      rw [if_pos hm, e, if_neg hd]
      omega
def pix (ps : List Pc) (x : Int) : Nat := (ps.takeWhile fun p => decide (p.frm ≤ x)).length - 1
def pcAt (ps : List Pc) (x : Int) : Pc := (ps[pix ps x]?).getD default
def numAt (ps : List Pc) (x : Int) : Int := (pcAt ps x).at_ + (pcAt ps x).slope * (x - (pcAt ps x).frm)
theorem takeWhile_len {x : Int} : ∀ {ps : List Pc} {r : Nat}, r ≤ ps.length → (∀ i p, i < r → ps[i]? = some p → p.frm ≤ x) → (∀ p, ps[r]? = some p → x < p.frm) → (ps.takeWhile fun p => decide (p.frm ≤ x)).length = r
  | [], r, h, _, _ => by simp at h; subst h; rfl
  | p :: ps, 0, _, _, h2 => by
    have := h2 p rfl
    rw [List.takeWhile_cons, if_neg (by simp; omega)]
    rfl
  | p :: ps, r + 1, h, h1, h2 => by
    have hp := h1 0 p (by omega) rfl
    rw [List.takeWhile_cons, if_pos (by simpa using hp), List.length_cons]
    congr 1
    exact takeWhile_len (ps := ps) (x := x) (by simpa using h) (fun i q hi hq => h1 (i + 1) q (by omega) (by simpa using hq)) (fun q hq => h2 q (by simpa using hq))
theorem valid_parts {den : Int} {ps : List Pc} (h : validB den ps = true) : 1 ≤ den ∧ den ≤ 1000000 ∧ 1 ≤ ps.length ∧ ps.length ≤ 64 ∧ ∀ i, i < ps.length → okI ps i = true := by
  simp only [validB, Bool.and_eq_true, decide_eq_true_eq, List.all_eq_true, List.mem_range] at h
  exact ⟨h.1.1.1.1, h.1.1.1.2, h.1.1.2, h.1.2, h.2⟩
theorem valid_piece {den : Int} {ps : List Pc} (h : validB den ps = true) {i : Nat} {p : Pc} (hp : ps[i]? = some p) : 0 ≤ p.frm ∧ p.frm ≤ 1000000000000 ∧ -1000000 ≤ p.slope ∧ p.slope ≤ 1000000 ∧ -1000000000000000000 ≤ p.at_ ∧ p.at_ ≤ 1000000000000000000 := by
  obtain ⟨_, _, _, _, hall⟩ := valid_parts h
  have hlt : ∀ {i : Nat} {p : Pc}, ps[i]? = some p → i < ps.length := fun h => (List.getElem?_eq_some_iff.1 h).1
  have key : ∀ (i : Nat) (p : Pc), ps[i]? = some p → 0 ≤ p.frm := by
    intro i
    induction i with
    | zero =>
      intro p hp
      have := (okI_iff hp (q := p) (by simpa using hp)).1 (hall 0 (hlt hp))
      omega
    | succ i ih =>
      intro p hp
      have hi : i < ps.length := by have := hlt hp; omega
      have hq : ps[(((i + 1 : Nat) : Int) - 1).toNat]? = some ps[i] := by rw [show (((i + 1 : Nat) : Int) - 1).toNat = i by omega]; exact List.getElem?_eq_getElem hi
      have := (okI_iff hp hq).1 (hall _ (hlt hp))
      have := ih _ (List.getElem?_eq_getElem hi)
      omega
  have h0 := key i p hp
  have hi := hlt hp
  have hq : ∃ q, ps[((i : Int) - 1).toNat]? = some q := ⟨_, List.getElem?_eq_getElem (by omega)⟩
  obtain ⟨q, hq⟩ := hq
  have := (okI_iff hp hq).1 (hall i hi)
  by_cases hz : (i : Int) = 0 <;> omega
theorem valid_incr {den : Int} {ps : List Pc} (h : validB den ps = true) {i j : Nat} {p q : Pc} (hij : i < j) (hp : ps[i]? = some p) (hq : ps[j]? = some q) : p.frm < q.frm := by
  obtain ⟨_, _, _, _, hall⟩ := valid_parts h
  have hlt : ∀ {i : Nat} {p : Pc}, ps[i]? = some p → i < ps.length := fun h => (List.getElem?_eq_some_iff.1 h).1
  obtain ⟨d, rfl⟩ : ∃ d, j = i + 1 + d := ⟨j - i - 1, by omega⟩
  clear hij
  induction d generalizing q with
  | zero =>
    have hq' : ps[(((i + 1 : Nat) : Int) - 1).toNat]? = some p := by rw [show (((i + 1 : Nat) : Int) - 1).toNat = i by omega]; exact hp
    have := (okI_iff (k := i + 1) hq hq').1 (hall _ (hlt hq))
    omega
  | succ d ih =>
    have hi : i + 1 + d < ps.length := by have := hlt hq; omega
    have h1 := ih (List.getElem?_eq_getElem hi)
    have hq' : ps[(((i + 1 + (d + 1) : Nat) : Int) - 1).toNat]? = some ps[i + 1 + d] := by rw [show (((i + 1 + (d + 1) : Nat) : Int) - 1).toNat = i + 1 + d by omega]; exact List.getElem?_eq_getElem hi
    have := (okI_iff (k := i + 1 + (d + 1)) hq hq').1 (hall _ (hlt hq))
    omega
theorem valid_first {den : Int} {ps : List Pc} (h : validB den ps = true) : ∃ p, ps[0]? = some p ∧ p.frm = 0 := by
  obtain ⟨_, _, h1, _, hall⟩ := valid_parts h
  refine ⟨ps[0], List.getElem?_eq_getElem (by omega), ?_⟩
  have hp : ps[0]? = some ps[0] := List.getElem?_eq_getElem (by omega)
  have := (okI_iff hp (q := ps[0]) (by simp)).1 (hall 0 (by omega))
  omega
/-- what makes a piece the one of an argument -/
theorem pcAt_eq {ps : List Pc} {x : Int} {i : Nat} {p : Pc} (hp : ps[i]? = some p) (h1 : ∀ j q, j ≤ i → ps[j]? = some q → q.frm ≤ x) (h2 : ∀ q, ps[i + 1]? = some q → x < q.frm) : pix ps x = i ∧ pcAt ps x = p := by
  have hi : i < ps.length := (List.getElem?_eq_some_iff.1 hp).1
  have := takeWhile_len (x := x) (ps := ps) (r := i + 1) (by omega) (fun j q hj hq => h1 j q (by omega) hq) h2
  have e : pix ps x = i := by unfold pix; omega
  exact ⟨e, by unfold pcAt; rw [e, hp]; rfl⟩
theorem pcAt_spec {den : Int} {ps : List Pc} (h : validB den ps = true) {x : Int} (hx : 0 ≤ x) : ps[pix ps x]? = some (pcAt ps x) ∧ (pcAt ps x).frm ≤ x ∧ ∀ q, ps[pix ps x + 1]? = some q → x < q.frm := by
  obtain ⟨p0, h0, hf⟩ := valid_first h
  have hne : ps ≠ [] := by rintro rfl; simp at h0
  have key : ∀ (l : List Pc), (l.takeWhile fun p => decide (p.frm ≤ x)).length ≤ l.length ∧ (∀ i p, i < (l.takeWhile fun p => decide (p.frm ≤ x)).length → l[i]? = some p → p.frm ≤ x) ∧ (∀ p, l[(l.takeWhile fun p => decide (p.frm ≤ x)).length]? = some p → x < p.frm) := by
    intro l
    induction l with
    | nil => simp
    | cons a l ih =>
      rw [List.takeWhile_cons]
      by_cases ha : a.frm ≤ x
      · rw [if_pos (decide_eq_true ha), List.length_cons, List.length_cons]
        refine ⟨by omega, fun i p hi hp => ?_, fun p hp => ih.2.2 p (by simpa using hp)⟩
        cases i with
        | zero => simp at hp; subst hp; exact ha
        | succ i => exact ih.2.1 i p (by omega) (by simpa using hp)
      · rw [if_neg (by simpa using ha)]
        refine ⟨by simp, fun i p hi _ => by simp at hi, fun p hp => by simp at hp; subst hp; omega⟩
  obtain ⟨k1, k2, k3⟩ := key ps
  have hpos : 0 < (ps.takeWhile fun p => decide (p.frm ≤ x)).length := by
    cases ps with
    | nil => exact absurd rfl hne
    | cons a l =>
      simp at h0
      subst h0
      rw [List.takeWhile_cons, if_pos (by simp; omega)]
      simp
  have hlt : pix ps x < ps.length := by unfold pix; omega
  have hg : ps[pix ps x]? = some (pcAt ps x) := by
    unfold pcAt
    rw [List.getElem?_eq_getElem hlt]
    rfl
  refine ⟨hg, k2 _ _ (by unfold pix; omega) hg, fun q hq => k3 q ?_⟩
  rw [show (ps.takeWhile fun p => decide (p.frm ≤ x)).length = pix ps x + 1 by unfold pix; omega]
  exact hq
theorem mul_bd (s y A B : Int) (h1 : -A ≤ s) (h2 : s ≤ A) (h3 : 0 ≤ y) (h4 : y ≤ B) (hA : 0 ≤ A) : -(A * B) ≤ s * y ∧ s * y ≤ A * B := by
  have a1 : s * y ≤ A * y := Int.mul_le_mul_of_nonneg_right h2 h3
  have a2 : A * y ≤ A * B := Int.mul_le_mul_of_nonneg_left h4 hA
  have a3 : -A * y ≤ s * y := Int.mul_le_mul_of_nonneg_right h1 h3
  rw [Int.neg_mul] at a3
  omega
theorem numAt_bd {den : Int} {ps : List Pc} (h : validB den ps = true) {x : Int} (hx : 0 ≤ x) (hx' : x ≤ 1000000000000) : -2000000000000000000 ≤ numAt ps x ∧ numAt ps x ≤ 2000000000000000000 := by
  obtain ⟨h1, h2, _⟩ := pcAt_spec h hx
  have hp := valid_piece h h1
  have := mul_bd (pcAt ps x).slope (x - (pcAt ps x).frm) 1000000 1000000000000 (by omega) (by omega) (by omega) (by omega) (by omega)
  unfold numAt
  omega
def argB (x : Int) : Bool := decide (0 ≤ x) && decide (x ≤ 1000000000000)
def modeB (m : Int) : Bool := decide (m = 0) || decide (m = 1) || decide (m = 2)
/-- whether a quotient is raised: t is twice the rest -/
def upB (t den q mode : Int) : Bool :=
  if t = den then (decide (mode = 1) && decide (0 ≤ q)) || (decide (mode = 2) && decide (q.tmod 2 ≠ 0)) else decide (den < t)
def roundQ (num den mode : Int) : Int :=
  if upB (2 * (num - num / den * den)) den (num / den) mode = true ∧ mode ≠ 0 then num / den + 1 else num / den
def inMax (q : Int) : Bool := decide (-1000000000000 ≤ q) && decide (q ≤ 1000000000000)
/-- the result and the error -/
def roundR (den : Int) (ps : List Pc) (x mode : Int) : Int × Int :=
  if validB den ps = true ∧ argB x = true ∧ modeB mode = true then
    if inMax (roundQ (numAt ps x) den mode) = true then (roundQ (numAt ps x) den mode, 0) else (0, 3)
  else (0, 1)
theorem div_bd (a b : Int) (hb : 1 ≤ b) : a / b * b ≤ a ∧ a < a / b * b + b := by
  have h1 := Int.ediv_mul_le a (show b ≠ 0 by omega)
  have h2 := Int.lt_ediv_add_one_mul_self a (show 0 < b by omega)
  rw [Int.add_mul, Int.one_mul] at h2
  exact ⟨h1, h2⟩
theorem div_abs (a b C : Int) (hb : 1 ≤ b) (h1 : -C ≤ a) (h2 : a ≤ C) (hC : 0 ≤ C) : -C ≤ a / b ∧ a / b ≤ C := by
  constructor
  · rw [Int.le_ediv_iff_mul_le (by omega)]
    have : C * 1 ≤ C * b := Int.mul_le_mul_of_nonneg_left hb hC
    rw [Int.neg_mul]
    omega
  · have : a / b ≤ C / b := Int.ediv_le_ediv (by omega) h2
    have := Int.ediv_le_self b hC
    omega
theorem roundQ_pos {N den mode q : Int} (hQ : N / den = q) (h : mode ≠ 0 ∧ ((2 * (N - q * den) = den ∧ ((mode = 1 ∧ 0 ≤ q) ∨ (mode = 2 ∧ ¬ q.tmod 2 = 0))) ∨ (¬ 2 * (N - q * den) = den ∧ den < 2 * (N - q * den)))) : roundQ N den mode = q + 1 := by
  have hu : upB (2 * (N - q * den)) den q mode = true := by
    unfold upB
    split <;> simp <;> omega
  unfold roundQ
  rw [hQ, if_pos ⟨hu, h.1⟩]
theorem roundQ_neg {N den mode q : Int} (hQ : N / den = q) (h : ¬ (mode ≠ 0 ∧ ((2 * (N - q * den) = den ∧ ((mode = 1 ∧ 0 ≤ q) ∨ (mode = 2 ∧ ¬ q.tmod 2 = 0))) ∨ (¬ 2 * (N - q * den) = den ∧ den < 2 * (N - q * den))))) : roundQ N den mode = q := by
  unfold roundQ
  rw [hQ, if_neg]
  rintro ⟨h1, h2⟩
  apply h
  refine ⟨h2, ?_⟩
  unfold upB at h1
  split at h1
  · simp at h1; omega
  · simp at h1; omega
theorem inMax_t {q : Int} (h : -1000000000000 ≤ q ∧ q ≤ 1000000000000) : inMax q = true := by simp [inMax]; omega
theorem inMax_f {q : Int} (h : ¬ (-1000000000000 ≤ q ∧ q ≤ 1000000000000)) : ¬ inMax q = true := by simp [inMax]; omega
def evalR (den : Int) (ps : List Pc) (x : Int) : Int × Int × Int := if validB den ps = true ∧ argB x = true then (numAt ps x, den, 0) else (0, 0, 1)
theorem tdiv_fl (a b : Int) (hb : 1 ≤ b) : a / b = if a.tdiv b * b > a then a.tdiv b - 1 else a.tdiv b := by
  rw [← fdiv_eq a b hb]
  unfold fdiv
  have := Int.tdiv_mul_add_tmod a b
  by_cases h : a.tmod b < 0
  · rw [if_pos h, if_pos (by omega)]
  · rw [if_neg h, if_neg (by omega)]
theorem tmod_two (q : Int) : q.tmod 2 = 0 ∨ q.tmod 2 = 1 ∨ q.tmod 2 = -1 := by
  have h1 := Int.tmod_lt_of_pos q (show (0:Int) < 2 by omega)
  rcases Int.le_total 0 q with h | h
  · have := Int.tmod_nonneg 2 h; omega
  · have e : q = -(-q) := by omega
    have := Int.tmod_nonneg 2 (show 0 ≤ -q by omega)
    have h2 := Int.tmod_lt_of_pos (-q) (show (0:Int) < 2 by omega)
    rw [e, Int.neg_tmod]
    omega
def fstN (p : Int → Bool) (lo : Int) : Nat → Int
  | 0 => lo
  | n + 1 => if p lo = true then lo else fstN p (lo + 1) n
def fst (p : Int → Bool) (lo hi : Int) : Int := fstN p lo (hi - lo).toNat
theorem fstN_is {p : Int → Bool} : ∀ (n : Nat) (lo r : Int), lo ≤ r → r ≤ lo + n → (∀ x, lo ≤ x → x < r → p x = false) → (r < lo + n → p r = true) → fstN p lo n = r
  | 0, lo, r, h1, h2, _, _ => by simp only [fstN]; omega
  | n + 1, lo, r, h1, h2, h3, h4 => by
    simp only [fstN]
    by_cases he : lo = r
    · subst he
      rw [if_pos (h4 (by omega))]
    · rw [if_neg (by rw [h3 lo (by omega) (by omega)]; simp)]
      exact fstN_is n (lo + 1) r (by omega) (by omega) (fun x a b => h3 x (by omega) b) (fun h => h4 (by omega))
theorem fst_is {p : Int → Bool} {lo hi r : Int} (h : lo < hi) (hr : IsFirst p lo hi r) : fst p lo hi = r := by
  unfold IsFirst at hr
  rw [if_pos h] at hr
  exact fstN_is _ _ _ hr.1 (by omega) hr.2.2.1 (fun hh => hr.2.2.2 r (by omega) (by omega))
structure Str where
  a : Int
  b : Int
  p : Pc
end Go.Wage
