/-
  Plain part: the reference of chapter 3 (minutes).
  Conditions: those of each theorem.
-/
import Derived.Test.YtjfnkmlnbaianaaGreatZV
namespace Go.Wage
def offA : Int → List (Int × Int) → Int → Int
 | off, [], _ => off
 | off, c :: cs, t => if c.1 ≤ t then offA c.2 cs t else off
def locD (z : Zo) (t : Int) : Int := (t + offA z.base z.chs t) / 1440
def locM (z : Zo) (t : Int) : Int := (t + offA z.base z.chs t) % 1440
theorem cnt_eq {p q : Int → Bool} {a b : Int} (h : ∀ x, a ≤ x → x < b → p x = q x) (hab : a ≤ b) : cnt p a b = cnt q a b := by
 have := cnt_shift (p := p) (q := q) (a := a) (b := b) (d := 0) (fun x h1 h2 => by rw [h x h1 h2, Int.add_zero]) hab
 simpa using this
theorem strZ_cnt (f : Int → Int → Bool) : ∀ (cs : List (Int × Int)) (off a b : Int), a ≤ b → ((strZ off cs a b).map fun s => cnt (f s.2) s.1.1 s.1.2).sum = cnt (fun t => f (offA off cs t) t) a b
 | [], off, a, b, h => by
  rw [strZ]
  by_cases h1 : a < b
  ·rw [if_pos h1]
   simp [offA]
  ·rw [if_neg h1, show b = a by omega, cnt_self]
   rfl
 | c :: cs, off, a, b, h => by
  rw [strZ]
  by_cases h1 : a < min c.1 b
  ·rw [if_pos h1, List.map_cons, List.sum_cons, strZ_cnt f cs c.2 _ b (by omega), cnt_add (fun t => f (offA off (c :: cs) t) t) (b := min c.1 b) (by omega) (by omega)]
   dsimp only
   congr 1
   ·refine cnt_eq (fun x h2 h3 => ?_) (by omega)
    simp only [offA]
    rw [if_neg (by omega)]
   ·refine cnt_eq (fun x h2 h3 => ?_) (by omega)
    simp only [offA]
    rw [if_pos (by omega)]
  ·rw [if_neg h1, strZ_cnt f cs c.2 a b h]
   refine cnt_eq (fun x h2 h3 => ?_) h
   simp only [offA]
   rw [if_pos (by omega)]
theorem dayM_cnt {d a : Int} : ∀ n : Nat, dayM d a (a + n) = cntI (fun x => decide (x / 1440 = d)) a n
 | 0 => by
  rw [cntI]
  unfold dayM
  omega
 | n + 1 => by
  rw [cntI, ← dayM_cnt n]
  simp only [decide_eq_true_eq]
  unfold dayM
  split <;> omega
theorem dayM_cnt' {d a b : Int} (h : a ≤ b) : dayM d a b = cnt (fun x => decide (x / 1440 = d)) a b := by
 unfold cnt
 rw [← dayM_cnt]
 congr 1
 omega
theorem str_ord : ∀ {cs : List (Int × Int)} {off a b : Int} {s : Sp × Int}, s ∈ strZ off cs a b → s.1.1 < s.1.2
 | [], off, a, b, s, h => by
  rw [strZ] at h
  split at h
  ·simp at h; subst h; assumption
  ·cases h
 | c :: cs, off, a, b, s, h => by
  rw [strZ] at h
  split at h
  ·rcases List.mem_cons.1 h with rfl | h
   ·assumption
   ·exact str_ord h
  ·exact str_ord h
theorem dyZ_cnt (z : Zo) {a b : Int} (h : a ≤ b) (d : Int) : dyZ (strZ z.base z.chs a b) d = cnt (fun t => decide (locD z t = d)) a b := by
 have := strZ_cnt (fun o t => decide ((t + o) / 1440 = d)) z.chs z.base a b h
 unfold locD
 rw [← this]
 unfold dyZ
 congr 1
 refine List.map_congr_left fun s hs => ?_
 have ho := str_ord hs
 rw [dayM_cnt' (by omega)]
 exact (cnt_shift (fun x _ _ => rfl) (by omega)).symm
theorem winZ_cnt (z : Zo) (w : Sp) {a b : Int} (h : a ≤ b) : winZ w (strZ z.base z.chs a b) = cnt (fun t => inW w (locM z t)) a b := by
 have := strZ_cnt (fun o t => inW w ((t + o) % 1440)) z.chs z.base a b h
 unfold locM
 rw [← this]
 unfold winZ
 congr 1
 refine List.map_congr_left fun s hs => ?_
 have ho := str_ord hs
 unfold winM
 exact (cnt_shift (fun x _ _ => rfl) (by omega)).symm
theorem cnt_next (p : Int → Bool) {a t : Int} (h : a ≤ t) : cnt p a (t + 1) = cnt p a t + if p t = true then 1 else 0 := by
 rw [cnt_add p h (show t ≤ t + 1 by omega)]
 congr 1
 unfold cnt
 rw [show (t + 1 - t).toNat = 1 by omega, cntI, cntI]
 simp
def incZ (d : Int) : List (Int × Int) → List (Int × Int)
 | [] => [(d, 1)]
 | p :: l => if p.1 < d then p :: incZ d l else if p.1 = d then (d, p.2 + 1) :: l else (d, 1) :: p :: l
theorem incZ_mem {d : Int} {p : Int × Int} : ∀ {l : List (Int × Int)}, l.Pairwise (fun a b => a.1 < b.1) → (p ∈ incZ d l ↔ (p.1 ≠ d ∧ p ∈ l) ∨ (p.1 = d ∧ ((d, p.2 - 1) ∈ l ∨ (p.2 = 1 ∧ ∀ q ∈ l, q.1 ≠ d))))
 | [], _ => by
  simp only [incZ, List.mem_singleton, List.not_mem_nil, and_false, false_or, false_imp_iff, implies_true, and_true]
  constructor
  ·rintro rfl; exact ⟨rfl, rfl⟩
  ·rintro ⟨h1, h2⟩; exact Prod.ext h1 h2
 | x :: l, h => by
  rw [List.pairwise_cons] at h
  have ih := incZ_mem (d := d) (p := p) h.2
  rw [incZ]
  by_cases h1 : x.1 < d
  ·rw [if_pos h1, List.mem_cons, ih]
   constructor
   ·rintro (rfl | ⟨h2, h3⟩ | ⟨h2, h3 | h3⟩)
    ·exact .inl ⟨by omega, by simp⟩
    ·exact .inl ⟨h2, by simp [h3]⟩
    ·exact .inr ⟨h2, .inl (by simp [h3])⟩
    ·refine .inr ⟨h2, .inr ⟨h3.1, fun q hq => ?_⟩⟩
     rcases List.mem_cons.1 hq with rfl | hq
     ·omega
     ·exact h3.2 q hq
   ·rintro (⟨h2, h3⟩ | ⟨h2, h3 | h3⟩)
    ·rcases List.mem_cons.1 h3 with h3 | h3
     ·exact .inl h3
     ·exact .inr (.inl ⟨h2, h3⟩)
    ·rcases List.mem_cons.1 h3 with h3 | h3
     ·rw [← h3] at h1; simp at h1
     ·exact .inr (.inr ⟨h2, .inl h3⟩)
    ·exact .inr (.inr ⟨h2, .inr ⟨h3.1, fun q hq => h3.2 q (by simp [hq])⟩⟩)
  ·rw [if_neg h1]
   by_cases h2 : x.1 = d
   ·rw [if_pos h2, List.mem_cons]
    constructor
    ·rintro (rfl | h3)
     ·refine .inr ⟨rfl, .inl ?_⟩
      simp only [Int.add_sub_cancel]
      rw [← h2]; simp
     ·have := h.1 p h3
      exact .inl ⟨by omega, by simp [h3]⟩
    ·rintro (⟨h3, h4⟩ | ⟨h3, h4 | h4⟩)
     ·rcases List.mem_cons.1 h4 with rfl | h4
      ·exact absurd h2 h3
      ·exact .inr h4
     ·rcases List.mem_cons.1 h4 with h4 | h4
      ·left
       rw [← h4]
       exact Prod.ext h3 (by simp)
      ·have := h.1 _ h4
       simp only at this; omega
     ·exact absurd h2 (h4.2 x (by simp))
   ·rw [if_neg h2]
    have hne : ∀ q ∈ x :: l, q.1 ≠ d := fun q hq => by
     rcases List.mem_cons.1 hq with rfl | hq
     ·exact h2
     ·have := h.1 q hq; omega
    rw [List.mem_cons]
    constructor
    ·rintro (rfl | h3)
     ·exact .inr ⟨rfl, .inr ⟨rfl, hne⟩⟩
     ·exact .inl ⟨hne p h3, h3⟩
    ·rintro (⟨h3, h4⟩ | ⟨h3, h4 | h4⟩)
     ·exact .inr h4
     ·exact absurd rfl (hne _ h4)
     ·exact .inl (Prod.ext h3 h4.1)
theorem incZ_ord {d : Int} : ∀ {l : List (Int × Int)}, l.Pairwise (fun a b => a.1 < b.1) → (incZ d l).Pairwise (fun a b => a.1 < b.1)
 | [], _ => by simp [incZ]
 | x :: l, h => by
  have h0 := h
  rw [List.pairwise_cons] at h
  rw [incZ]
  by_cases h1 : x.1 < d
  ·rw [if_pos h1, List.pairwise_cons]
   refine ⟨fun p hp => ?_, incZ_ord h.2⟩
   rcases (incZ_mem h.2).1 hp with h2 | h2
   ·exact h.1 p h2.2
   ·omega
  ·rw [if_neg h1]
   by_cases h2 : x.1 = d
   ·rw [if_pos h2, List.pairwise_cons]
    exact ⟨fun p hp => by have := h.1 p hp; simp only; omega, h.2⟩
   ·rw [if_neg h2, List.pairwise_cons]
    refine ⟨fun p hp => ?_, h0⟩
    rcases List.mem_cons.1 hp with rfl | hp
    ·simp only; omega
    ·have := h.1 p hp; simp only; omega
theorem incZ_at {d : Int} : ∀ {l : List (Int × Int)} {k : Nat}, k ≤ l.length → (∀ p ∈ l.take k, p.1 < d) → (∀ p ∈ l.drop k, d ≤ p.1) → incZ d l = if k < l.length ∧ (l.getD k default).1 = d then l.set k (d, (l.getD k default).2 + 1) else l.take k ++ (d, 1) :: l.drop k
 | [], k, hk, _, _ => by
  have : k = 0 := by simpa using hk
  subst this
  simp [incZ]
 | x :: l, 0, _, _, h2 => by
  have h3 := h2 x (by simp)
  rw [incZ, if_neg (by omega)]
  by_cases e : x.1 = d
  ·rw [if_pos e, if_pos ⟨by simp, by simpa using e⟩]
   simp
  ·rw [if_neg e, if_neg (by simpa using e)]
   simp
 | x :: l, k + 1, hk, h1, h2 => by
  have h3 := h1 x (by simp)
  have ih := incZ_at (d := d) (l := l) (k := k) (by simpa using hk) (fun p hp => h1 p (by simp [hp])) (fun p hp => h2 p (by simpa using hp))
  rw [incZ, if_pos h3, ih]
  by_cases e : k < l.length ∧ (l.getD k default).1 = d
  ·rw [if_pos e, if_pos (by simpa using e)]
   simp
  ·rw [if_neg e, if_neg (by simpa using e)]
   simp
def okOff (z : Zo) : Prop := (-840 ≤ z.base ∧ z.base ≤ 840) ∧ ∀ c ∈ z.chs, -840 ≤ c.2 ∧ c.2 ≤ 840
theorem offA_bd {t : Int} : ∀ {cs : List (Int × Int)} {off : Int}, (-840 ≤ off ∧ off ≤ 840) → (∀ c ∈ cs, -840 ≤ c.2 ∧ c.2 ≤ 840) → -840 ≤ offA off cs t ∧ offA off cs t ≤ 840
 | [], off, h, _ => h
 | c :: cs, off, h, h2 => by
  rw [offA]
  split
  ·exact offA_bd (h2 c (by simp)) fun d hd => h2 d (by simp [hd])
  ·exact h
theorem split_mem {z : Zo} (hz : okOff z) {a t : Int} (h : a ≤ t) {p : Int × Int} : p ∈ splitZ z a t ↔ 0 < cnt (fun t => decide (locD z t = p.1)) a t ∧ p.2 = cnt (fun t => decide (locD z t = p.1)) a t := by
 unfold splitZ
 rw [prt_mem (fun s hs => ?_) h, dyZ_cnt z h]
 have := strZ_mem hs hz.1 hz.2
 exact ⟨this.1, this.2.2.1, this.2.2.2⟩
theorem split_step {z : Zo} (hz : okOff z) {a t : Int} (h : a ≤ t) : splitZ z a (t + 1) = incZ (locD z t) (splitZ z a t) := by
 have ho : (splitZ z a t).Pairwise (fun a b => a.1 < b.1) := prt_ord _ _ _
 refine ord_ext (lt := fun a b : Int × Int => a.1 < b.1) (fun a => by omega) (fun a b c => by omega) (prt_ord _ _ _) (incZ_ord ho) fun p => ?_
 rw [incZ_mem ho, split_mem hz (by omega), cnt_next _ h]
 have h0 := cnt_bd (fun t => decide (locD z t = p.1)) h
 by_cases e : p.1 = locD z t
 ·have e' : locD z t = p.1 := e.symm
  simp only [e', decide_true, if_true]
  have hm : (p.1, p.2 - 1) ∈ splitZ z a t ↔ _ := split_mem hz h
  rw [hm]
  simp only [ne_eq, not_true_eq_false, false_and, false_or, true_and]
  constructor
  ·intro h1
   by_cases h2 : 0 < cnt (fun t => decide (locD z t = p.1)) a t
   ·exact .inl ⟨h2, by omega⟩
   ·refine .inr ⟨by omega, fun q hq e2 => ?_⟩
    have := ((split_mem hz h).1 hq).1
    rw [e2] at this
    omega
  ·rintro (h1 | h1)
   ·omega
   ·by_cases h2 : 0 < cnt (fun t => decide (locD z t = p.1)) a t
    ·exact absurd rfl (h1.2 (p.1, cnt (fun t => decide (locD z t = p.1)) a t) ((split_mem hz h).2 ⟨h2, rfl⟩))
    ·omega
 ·have e' : ¬ locD z t = p.1 := fun e2 => e e2.symm
  simp only [decide_eq_true_eq, e', if_false, Int.add_zero]
  rw [split_mem hz h]
  constructor
  ·exact fun h1 => .inl ⟨e, h1⟩
  ·rintro (h1 | h1)
   ·exact h1.2
   ·exact absurd h1.1 e
theorem split_nil (z : Zo) (hz : okOff z) (a : Int) : splitZ z a a = [] := by
 rw [List.eq_nil_iff_forall_not_mem]
 intro p hp
 have := ((split_mem hz (Int.le_refl a)).1 hp).1
 rw [cnt_self] at this
 omega
theorem cnt_pos {p : Int → Bool} {a : Int} : ∀ {n : Nat}, 0 < cntI p a n ↔ ∃ x, a ≤ x ∧ x < a + n ∧ p x = true
 | 0 => by
  simp only [cntI]; constructor
  ·intro h; omega
  ·rintro ⟨x, h1, h2, _⟩; omega
 | n + 1 => by
  have ih := cnt_pos (p := p) (a := a) (n := n)
  have hb := cntI_bd p a n
  rw [cntI]
  by_cases e : p (a + n) = true
  ·rw [if_pos e]
   exact ⟨fun _ => ⟨a + n, by omega, by omega, e⟩, fun _ => by omega⟩
  ·rw [if_neg e, Int.add_zero, ih]
   constructor
   ·rintro ⟨x, h1, h2, h3⟩; exact ⟨x, h1, by omega, h3⟩
   ·rintro ⟨x, h1, h2, h3⟩
    by_cases e2 : x = a + n
    ·subst e2; exact absurd h3 e
    ·exact ⟨x, h1, by omega, h3⟩
theorem splitOk_iff {z : Zo} (hz : okOff z) {a b : Int} (h : a ≤ b) : splitOk z a b = true ↔ ∀ t, a ≤ t → t < b → okDay (locD z t) = true := by
 unfold splitOk
 rw [List.all_eq_true]
 constructor
 ·intro h1 t h2 h3
  have : 0 < cnt (fun x => decide (locD z x = locD z t)) a b := by
   unfold cnt
   rw [cnt_pos]
   exact ⟨t, h2, by omega, by simp⟩
  exact h1 (locD z t, cnt (fun x => decide (locD z x = locD z t)) a b) ((split_mem hz h).2 ⟨this, rfl⟩)
 ·intro h1 p hp
  have h2 := ((split_mem hz h).1 hp).1
  unfold cnt at h2
  rw [cnt_pos] at h2
  obtain ⟨t, h3, h4, h5⟩ := h2
  have := h1 t h3 (by omega)
  rw [decide_eq_true_eq] at h5
  rwa [h5] at this
theorem split_len {z : Zo} (hz : okOff z) {a t : Int} (h : a ≤ t) : ((splitZ z a t).length : Int) ≤ t - a := by
 obtain ⟨n, rfl⟩ : ∃ n : Nat, t = a + n := ⟨(t - a).toNat, by omega⟩
 clear h
 induction n with
 | zero => rw [show a + ((0 : Nat) : Int) = a by omega, split_nil z hz]; simp
 | succ n ih =>
  have h1 := split_step hz (a := a) (t := a + n) (by omega)
  have h2 : ∀ (d : Int) (l : List (Int × Int)), (incZ d l).length ≤ l.length + 1 := by
   intro d l
   induction l with
   | nil => simp [incZ]
   | cons x l ih2 =>
    rw [incZ]
    split
    ·simpa using ih2
    ·split <;> simp
  have h3 := h2 (locD z (a + n)) (splitZ z a (a + n))
  rw [show a + ((n + 1 : Nat) : Int) = a + n + 1 by omega, h1]
  omega
end Go.Wage
