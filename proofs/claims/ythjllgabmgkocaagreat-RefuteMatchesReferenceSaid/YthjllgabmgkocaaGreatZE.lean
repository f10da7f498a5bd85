/-
  Plain part: the references of chapters 3 and 18 (minutes, violations).
  Conditions: those of each theorem.
-/
import Derived.Test.YthjllgabmgkocaaGreatZV
namespace Go.Wage
/-- the offset at a minute -/
def offA : Int → List (Int × Int) → Int → Int
  | off, [], _ => off
  | off, c :: cs, t => if c.1 ≤ t then offA c.2 cs t else off
def locD (z : Zo) (t : Int) : Int := (t + offA z.base z.chs t) / 1440
def locM (z : Zo) (t : Int) : Int := (t + offA z.base z.chs t) % 1440
theorem cnt_eq {p q : Int → Bool} {a b : Int} (h : ∀ x, a ≤ x → x < b → p x = q x) (hab : a ≤ b) : cnt p a b = cnt q a b := by
  have := cnt_shift (p := p) (q := q) (a := a) (b := b) (d := 0) (fun x h1 h2 => by rw [h x h1 h2, Int.add_zero]) hab
  simpa using this
theorem strZ_cnt (f : Int → Int → Bool) : ∀ (cs : List (Int × Int)) (off a b : Int), a ≤ b → ((strZ off cs a b).map fun s => cnt (f s.2) s.1.1 s.1.2).sum = cnt (fun t => f (offA off cs t) t) a b
  | [], off, a, b, h => by
    rw [strZ]
    by_cases h1 : a < b
    · rw [if_pos h1]
      simp [offA]
    · rw [if_neg h1, show b = a by omega, cnt_self]
      rfl
  | c :: cs, off, a, b, h => by
    rw [strZ]
    by_cases h1 : a < min c.1 b
    · rw [if_pos h1, List.map_cons, List.sum_cons, strZ_cnt f cs c.2 _ b (by omega), cnt_add (fun t => f (offA off (c :: cs) t) t) (b := min c.1 b) (by omega) (by omega)]
      dsimp only
      congr 1
      · refine cnt_eq (fun x h2 h3 => ?_) (by omega)
        simp only [offA]
        rw [if_neg (by omega)]
      · refine cnt_eq (fun x h2 h3 => ?_) (by omega)
        simp only [offA]
        rw [if_pos (by omega)]
    · rw [if_neg h1, strZ_cnt f cs c.2 a b h]
      refine cnt_eq (fun x h2 h3 => ?_) h
      simp only [offA]
      rw [if_pos (by omega)]
theorem dayM_cnt {d a : Int} : ∀ n : Nat, dayM d a (a + n) = cntI (fun x => decide (x / 1440 = d)) a n
  | 0 => by
    rw [cntI]
    unfold dayM
    omega
  | n + 1 => by
    rw [cntI, ← dayM_cnt n]
    simp only [decide_eq_true_eq]
    unfold dayM
    split <;> omega
theorem dayM_cnt' {d a b : Int} (h : a ≤ b) : dayM d a b = cnt (fun x => decide (x / 1440 = d)) a b := by
  unfold cnt
  rw [← dayM_cnt]
  congr 1
  omega
theorem str_ord : ∀ {cs : List (Int × Int)} {off a b : Int} {s : Sp × Int}, s ∈ strZ off cs a b → s.1.1 < s.1.2
  | [], off, a, b, s, h => by
    rw [strZ] at h
    split at h
    · simp at h; subst h; assumption
    · cases h
  | c :: cs, off, a, b, s, h => by
    rw [strZ] at h
    split at h
    · rcases List.mem_cons.1 h with rfl | h
      · assumption
      · exact str_ord h
    · exact str_ord h
theorem dyZ_cnt (z : Zo) {a b : Int} (h : a ≤ b) (d : Int) : dyZ (strZ z.base z.chs a b) d = cnt (fun t => decide (locD z t = d)) a b := by
  have := strZ_cnt (fun o t => decide ((t + o) / 1440 = d)) z.chs z.base a b h
  unfold locD
  rw [← this]
  unfold dyZ
  congr 1
  refine List.map_congr_left fun s hs => ?_
  have ho := str_ord hs
  rw [dayM_cnt' (by omega)]
  exact (cnt_shift (fun x _ _ => rfl) (by omega)).symm
theorem winZ_cnt (z : Zo) (w : Sp) {a b : Int} (h : a ≤ b) : winZ w (strZ z.base z.chs a b) = cnt (fun t => inW w (locM z t)) a b := by
  have := strZ_cnt (fun o t => inW w ((t + o) % 1440)) z.chs z.base a b h
  unfold locM
  rw [← this]
  unfold winZ
  congr 1
  refine List.map_congr_left fun s hs => ?_
  have ho := str_ord hs
  unfold winM
  exact (cnt_shift (fun x _ _ => rfl) (by omega)).symm
theorem cnt_next (p : Int → Bool) {a t : Int} (h : a ≤ t) : cnt p a (t + 1) = cnt p a t + if p t = true then 1 else 0 := by
  rw [cnt_add p h (show t ≤ t + 1 by omega)]
  congr 1
  unfold cnt
  rw [show (t + 1 - t).toNat = 1 by omega, cntI, cntI]
  simp
/-- a minute more of a day, in a list of days in order -/
def incZ (d : Int) : List (Int × Int) → List (Int × Int)
  | [] => [(d, 1)]
  | p :: l => if p.1 < d then p :: incZ d l else if p.1 = d then (d, p.2 + 1) :: l else (d, 1) :: p :: l
theorem incZ_mem {d : Int} {p : Int × Int} : ∀ {l : List (Int × Int)}, l.Pairwise (fun a b => a.1 < b.1) → (p ∈ incZ d l ↔ (p.1 ≠ d ∧ p ∈ l) ∨ (p.1 = d ∧ ((d, p.2 - 1) ∈ l ∨ (p.2 = 1 ∧ ∀ q ∈ l, q.1 ≠ d))))
  | [], _ => by
    simp only [incZ, List.mem_singleton, List.not_mem_nil, and_false, false_or, false_imp_iff, implies_true, and_true]
    constructor
    · rintro rfl; exact ⟨rfl, rfl⟩
    · rintro ⟨h1, h2⟩; exact Prod.ext h1 h2
  | x :: l, h => by
    rw [List.pairwise_cons] at h
    have ih := incZ_mem (d := d) (p := p) h.2
    rw [incZ]
    by_cases h1 : x.1 < d
    · rw [if_pos h1, List.mem_cons, ih]
      constructor
      · rintro (rfl | ⟨h2, h3⟩ | ⟨h2, h3 | h3⟩)
        · exact .inl ⟨by omega, by simp⟩
        · exact .inl ⟨h2, by simp [h3]⟩
        · exact .inr ⟨h2, .inl (by simp [h3])⟩
        · refine .inr ⟨h2, .inr ⟨h3.1, fun q hq => ?_⟩⟩
          rcases List.mem_cons.1 hq with rfl | hq
          · omega
          · exact h3.2 q hq
      · rintro (⟨h2, h3⟩ | ⟨h2, h3 | h3⟩)
        · rcases List.mem_cons.1 h3 with h3 | h3
          · exact .inl h3
          · exact .inr (.inl ⟨h2, h3⟩)
        · rcases List.mem_cons.1 h3 with h3 | h3
          · rw [← h3] at h1; simp at h1
          · exact .inr (.inr ⟨h2, .inl h3⟩)
        · exact .inr (.inr ⟨h2, .inr ⟨h3.1, fun q hq => h3.2 q (by simp [hq])⟩⟩)
    · rw [if_neg h1]
      by_cases h2 : x.1 = d
      · rw [if_pos h2, List.mem_cons]
        constructor
        · rintro (rfl | h3)
          · refine .inr ⟨rfl, .inl ?_⟩
            simp only [Int.add_sub_cancel]
            rw [← h2]; simp
          · have := h.1 p h3
            exact .inl ⟨by omega, by simp [h3]⟩
        · rintro (⟨h3, h4⟩ | ⟨h3, h4 | h4⟩)
          · rcases List.mem_cons.1 h4 with rfl | h4
            · exact absurd h2 h3
            · exact .inr h4
          · rcases List.mem_cons.1 h4 with h4 | h4
            · left
              rw [← h4]
              exact Prod.ext h3 (by simp)
            · have := h.1 _ h4
              simp only at this; omega
          · exact absurd h2 (h4.2 x (by simp))
      · rw [if_neg h2]
        have hne : ∀ q ∈ x :: l, q.1 ≠ d := fun q hq => by
          rcases List.mem_cons.1 hq with rfl | hq
          · exact h2
          · have := h.1 q hq; omega
        rw [List.mem_cons]
        constructor
        · rintro (rfl | h3)
          · exact .inr ⟨rfl, .inr ⟨rfl, hne⟩⟩
          · exact .inl ⟨hne p h3, h3⟩
        · rintro (⟨h3, h4⟩ | ⟨h3, h4 | h4⟩)
          · exact .inr h4
          · exact absurd rfl (hne _ h4)
          · exact .inl (Prod.ext h3 h4.1)
theorem incZ_ord {d : Int} : ∀ {l : List (Int × Int)}, l.Pairwise (fun a b => a.1 < b.1) → (incZ d l).Pairwise (fun a b => a.1 < b.1)
  | [], _ => by simp [incZ]
  | x :: l, h => by
    have h0 := h
    rw [List.pairwise_cons] at h
    rw [incZ]
    by_cases h1 : x.1 < d
    · rw [if_pos h1, List.pairwise_cons]
      refine ⟨fun p hp => ?_, incZ_ord h.2⟩
      rcases (incZ_mem h.2).1 hp with h2 | h2
      · exact h.1 p h2.2
      · omega
    · rw [if_neg h1]
      by_cases h2 : x.1 = d
      · rw [if_pos h2, List.pairwise_cons]
        exact ⟨fun p hp => by have := h.1 p hp; simp only; omega, h.2⟩
      · rw [if_neg h2, List.pairwise_cons]
        refine ⟨fun p hp => ?_, h0⟩
        rcases List.mem_cons.1 hp with rfl | hp
        · simp only; omega
        · have := h.1 p hp; simp only; omega
/-- the place of a day in a list -/
theorem incZ_at {d : Int} : ∀ {l : List (Int × Int)} {k : Nat}, k ≤ l.length → (∀ p ∈ l.take k, p.1 < d) → (∀ p ∈ l.drop k, d ≤ p.1) → incZ d l = if k < l.length ∧ (l.getD k default).1 = d then l.set k (d, (l.getD k default).2 + 1) else l.take k ++ (d, 1) :: l.drop k
  | [], k, hk, _, _ => by
    have : k = 0 := by simpa using hk
    subst this
    simp [incZ]
  | x :: l, 0, _, _, h2 => by
    have h3 := h2 x (by simp)
    rw [incZ, if_neg (by omega)]
    by_cases e : x.1 = d
    · rw [if_pos e, if_pos ⟨by simp, by simpa using e⟩]
      simp
    · rw [if_neg e, if_neg (by simpa using e)]
      simp
  | x :: l, k + 1, hk, h1, h2 => by
    have h3 := h1 x (by simp)
    have ih := incZ_at (d := d) (l := l) (k := k) (by simpa using hk) (fun p hp => h1 p (by simp [hp])) (fun p hp => h2 p (by simpa using hp))
    rw [incZ, if_pos h3, ih]
    by_cases e : k < l.length ∧ (l.getD k default).1 = d
    · rw [if_pos e, if_pos (by simpa using e)]
      simp
    · rw [if_neg e, if_neg (by simpa using e)]
      simp
def okOff (z : Zo) : Prop := (-840 ≤ z.base ∧ z.base ≤ 840) ∧ ∀ c ∈ z.chs, -840 ≤ c.2 ∧ c.2 ≤ 840
theorem offA_bd {t : Int} : ∀ {cs : List (Int × Int)} {off : Int}, (-840 ≤ off ∧ off ≤ 840) → (∀ c ∈ cs, -840 ≤ c.2 ∧ c.2 ≤ 840) → -840 ≤ offA off cs t ∧ offA off cs t ≤ 840
  | [], off, h, _ => h
  | c :: cs, off, h, h2 => by
    rw [offA]
    split
    · exact offA_bd (h2 c (by simp)) fun d hd => h2 d (by simp [hd])
    · exact h
theorem split_mem {z : Zo} (hz : okOff z) {a t : Int} (h : a ≤ t) {p : Int × Int} : p ∈ splitZ z a t ↔ 0 < cnt (fun t => decide (locD z t = p.1)) a t ∧ p.2 = cnt (fun t => decide (locD z t = p.1)) a t := by
  unfold splitZ
  rw [prt_mem (fun s hs => ?_) h, dyZ_cnt z h]
  have := strZ_mem hs hz.1 hz.2
  exact ⟨this.1, this.2.2.1, this.2.2.2⟩
theorem split_step {z : Zo} (hz : okOff z) {a t : Int} (h : a ≤ t) : splitZ z a (t + 1) = incZ (locD z t) (splitZ z a t) := by
  have ho : (splitZ z a t).Pairwise (fun a b => a.1 < b.1) := prt_ord _ _ _
  refine ord_ext (lt := fun a b : Int × Int => a.1 < b.1) (fun a => by omega) (fun a b c => by omega) (prt_ord _ _ _) (incZ_ord ho) fun p => ?_
  rw [incZ_mem ho, split_mem hz (by omega), cnt_next _ h]
  have h0 := cnt_bd (fun t => decide (locD z t = p.1)) h
  by_cases e : p.1 = locD z t
  · have e' : locD z t = p.1 := e.symm
    simp only [e', decide_true, if_true]
    have hm : (p.1, p.2 - 1) ∈ splitZ z a t ↔ _ := split_mem hz h
    rw [hm]
    simp only [ne_eq, not_true_eq_false, false_and, false_or, true_and]
    constructor
    · intro h1
      by_cases h2 : 0 < cnt (fun t => decide (locD z t = p.1)) a t
      · exact .inl ⟨h2, by omega⟩
      · refine .inr ⟨by omega, fun q hq e2 => ?_⟩
        have := ((split_mem hz h).1 hq).1
        rw [e2] at this
        omega
    · rintro (h1 | h1)
      · omega
      · by_cases h2 : 0 < cnt (fun t => decide (locD z t = p.1)) a t
        · exact absurd rfl (h1.2 (p.1, cnt (fun t => decide (locD z t = p.1)) a t) ((split_mem hz h).2 ⟨h2, rfl⟩))
        · omega
  · have e' : ¬ locD z t = p.1 := fun e2 => e e2.symm
    simp only [decide_eq_true_eq, e', if_false, Int.add_zero]
    rw [split_mem hz h]
    constructor
    · exact fun h1 => .inl ⟨e, h1⟩
    · rintro (h1 | h1)
      · exact h1.2
      · exact absurd h1.1 e
theorem split_nil (z : Zo) (hz : okOff z) (a : Int) : splitZ z a a = [] := by
  rw [List.eq_nil_iff_forall_not_mem]
  intro p hp
  have := ((split_mem hz (Int.le_refl a)).1 hp).1
  rw [cnt_self] at this
  omega
theorem cnt_pos {p : Int → Bool} {a : Int} : ∀ {n : Nat}, 0 < cntI p a n ↔ ∃ x, a ≤ x ∧ x < a + n ∧ p x = true
  | 0 => by simp only [cntI]; constructor
            · intro h; omega
            · rintro ⟨x, h1, h2, _⟩; omega
  | n + 1 => by
    have ih := cnt_pos (p := p) (a := a) (n := n)
    have hb := cntI_bd p a n
    rw [cntI]
    by_cases e : p (a + n) = true
    · rw [if_pos e]
      exact ⟨fun _ => ⟨a + n, by omega, by omega, e⟩, fun _ => by omega⟩
    · rw [if_neg e, Int.add_zero, ih]
      constructor
      · rintro ⟨x, h1, h2, h3⟩; exact ⟨x, h1, by omega, h3⟩
      · rintro ⟨x, h1, h2, h3⟩
        by_cases e2 : x = a + n
        · subst e2; exact absurd h3 e
        · exact ⟨x, h1, by omega, h3⟩
/-- no day out of bounds, minute by minute -/
theorem splitOk_iff {z : Zo} (hz : okOff z) {a b : Int} (h : a ≤ b) : splitOk z a b = true ↔ ∀ t, a ≤ t → t < b → okDay (locD z t) = true := by
  unfold splitOk
  rw [List.all_eq_true]
  constructor
  · intro h1 t h2 h3
    have : 0 < cnt (fun x => decide (locD z x = locD z t)) a b := by
      unfold cnt
      rw [cnt_pos]
      exact ⟨t, h2, by omega, by simp⟩
    exact h1 (locD z t, cnt (fun x => decide (locD z x = locD z t)) a b) ((split_mem hz h).2 ⟨this, rfl⟩)
  · intro h1 p hp
    have h2 := ((split_mem hz h).1 hp).1
    unfold cnt at h2
    rw [cnt_pos] at h2
    obtain ⟨t, h3, h4, h5⟩ := h2
    have := h1 t h3 (by omega)
    rw [decide_eq_true_eq] at h5
    rwa [h5] at this
theorem split_len {z : Zo} (hz : okOff z) {a t : Int} (h : a ≤ t) : ((splitZ z a t).length : Int) ≤ t - a := by
  obtain ⟨n, rfl⟩ : ∃ n : Nat, t = a + n := ⟨(t - a).toNat, by omega⟩
  clear h
  induction n with
  | zero => rw [show a + ((0 : Nat) : Int) = a by omega, split_nil z hz]; simp
  | succ n ih =>
    have h1 := split_step hz (a := a) (t := a + n) (by omega)
    have h2 : ∀ (d : Int) (l : List (Int × Int)), (incZ d l).length ≤ l.length + 1 := by
      intro d l
      induction l with
      | nil => simp [incZ]
      | cons x l ih2 =>
        rw [incZ]
        split
        · simpa using ih2
        · split <;> simp
    have h3 := h2 (locD z (a + n)) (splitZ z a (a + n))
    rw [show a + ((n + 1 : Nat) : Int) = a + n + 1 by omega, h1]
    omega
end Go.Wage
namespace Go.Wage
open Go.E2
theorem insV_at {v : Vi} : ∀ {l : List Vi} {k : Nat}, k ≤ l.length → (∀ x ∈ l.take k, ltV x v) → (k < l.length → ¬ ltV (l.getD k default) v) → insV v l = if k < l.length ∧ l.getD k default = v then l else l.take k ++ v :: l.drop k
  | [], k, hk, _, _ => by
    have : k = 0 := by simpa using hk
    subst this
    simp [insV]
  | x :: l, 0, _, _, h2 => by
    have h3 := h2 (by simp)
    simp only [List.getD_cons_zero] at h3
    rw [insV]
    by_cases e : v = x
    · subst e
      rw [if_neg (ltV_irr v), if_pos rfl, if_pos (by simp)]
    · rw [if_pos (ltV_tot h3 e), if_neg (by simp; exact fun e' => e e'.symm)]
      simp
  | x :: l, k + 1, hk, h1, h2 => by
    have h3 := h1 x (by simp)
    have ih := insV_at (v := v) (l := l) (k := k) (by simpa using hk) (fun p hp => h1 p (by simp [hp])) (fun h => by simpa using h2 (by simpa using h))
    rw [insV, if_neg fun h => ltV_irr _ (ltV_tr h3 h), if_neg fun e => by subst e; exact ltV_irr _ h3, ih]
    by_cases e : k < l.length ∧ l.getD k default = v
    · rw [if_pos e, if_pos (by simpa using e)]
    · rw [if_neg e, if_neg (by simpa using e)]
      simp
def insAll (out l : List Vi) : List Vi := l.foldl (fun o v => insV v o) out
theorem insAll_app (out a b : List Vi) : insAll out (a ++ b) = insAll (insAll out a) b := by simp [insAll, List.foldl_append]
theorem insAll_mem {x : Vi} : ∀ {l out : List Vi}, x ∈ insAll out l ↔ x ∈ l ∨ x ∈ out
  | [], out => by simp [insAll]
  | v :: l, out => by
    have ih := insAll_mem (x := x) (l := l) (out := insV v out)
    have e : insAll out (v :: l) = insAll (insV v out) l := rfl
    rw [e, ih, insV_mem, List.mem_cons]
    constructor
    · rintro (h | h | h)
      · exact .inl (.inr h)
      · exact .inl (.inl h)
      · exact .inr h
    · rintro ((h | h) | h)
      · exact .inr (.inl h)
      · exact .inl h
      · exact .inr (.inr h)
theorem insAll_ord : ∀ {l out : List Vi}, out.Pairwise ltV → (insAll out l).Pairwise ltV
  | [], _, h => h
  | v :: l, out, h => insAll_ord (l := l) (out := insV v out) (insV_ord h)
theorem insV_len' (v : Vi) : ∀ l : List Vi, (insV v l).length ≤ l.length + 1
  | [] => by simp [insV]
  | x :: l => by
    have := insV_len' v l
    rw [insV]
    split
    · simp
    · split
      · simp
      · simp only [List.length_cons]; omega
theorem insAll_len : ∀ (l out : List Vi), (insAll out l).length ≤ out.length + l.length
  | [], out => by simp [insAll]
  | v :: l, out => by
    have h1 := insAll_len l (insV v out)
    have h2 := insV_len' v out
    have e : insAll out (v :: l) = insAll (insV v out) l := rfl
    rw [e, List.length_cons]
    omega
theorem mins_pos {p : Pl} {d : Du} {q : Int × Int} (h : q ∈ minsD p d) : 0 < q.2 := by
  unfold minsD splitZ prt at h
  have := prtZ_mem.1 h
  omega
theorem mins_ord (p : Pl) (d : Du) : (minsD p d).Pairwise fun a b => a.1 < b.1 := prt_ord _ _ _
def onL (l : List (Int × Int)) (day : Int) : Int := (l.map fun q => if q.1 = day then q.2 else 0).sum
def onP (p : Pl) (d : Nat) (day : Int) : Int := onL (minsD p (p.duties.getD d default)) day
theorem onL_cons (q : Int × Int) (l : List (Int × Int)) (day : Int) : onL (q :: l) day = (if q.1 = day then q.2 else 0) + onL l day := by simp [onL]
theorem onL_none {l : List (Int × Int)} {day : Int} (h : ∀ q ∈ l, q.1 ≠ day) : onL l day = 0 := by
  induction l with
  | nil => rfl
  | cons q l ih =>
    rw [onL_cons, if_neg (h q (by simp)), ih fun r hr => h r (by simp [hr])]
    rfl
theorem onL_first {day : Int} : ∀ {l : List (Int × Int)} {k : Nat}, l.Pairwise (fun a b => a.1 < b.1) → k < l.length → (l.getD k default).1 = day → onL l day = (l.getD k default).2
  | q :: l, 0, h, _, e => by
    rw [List.pairwise_cons] at h
    simp only [List.getD_cons_zero] at e ⊢
    rw [onL_cons, if_pos e, onL_none fun r hr => by have := h.1 r hr; omega]
    omega
  | q :: l, k + 1, h, hk, e => by
    rw [List.pairwise_cons] at h
    simp only [List.getD_cons_succ] at e ⊢
    have hk' : k < l.length := by simpa using hk
    have hm : l.getD k default ∈ l := by simp [List.getD, hk']
    have := h.1 _ hm
    rw [onL_cons, if_neg (by omega), onL_first h.2 hk' e]
    omega
  | [], k, _, h, _ => by simp at h
theorem onL_nn {l : List (Int × Int)} {day : Int} (h : ∀ q ∈ l, 0 < q.2) : 0 ≤ onL l day := by
  induction l with
  | nil => exact Int.le_refl _
  | cons q l ih =>
    have h1 := h q (by simp)
    have h2 := ih fun r hr => h r (by simp [hr])
    rw [onL_cons]
    split <;> omega
theorem onP_nn (p : Pl) (d : Nat) (day : Int) : 0 ≤ onP p d day := onL_nn fun _ => mins_pos
theorem dut_one (d : Nat) {day : Int} : ∀ {l : List (Int × Int)}, l.Pairwise (fun a b => a.1 < b.1) → (∀ q ∈ l, 0 < q.2) → dutT (l.map fun q => (d, q.1, q.2)) day = if 0 < onL l day then [d] else []
  | [], _, _ => by simp [dutT, onL]
  | q :: l, h, hp => by
    rw [List.pairwise_cons] at h
    have ih := dut_one d (day := day) h.2 fun r hr => hp r (by simp [hr])
    have h1 := hp q (by simp)
    have e : dutT ((q :: l).map fun q => (d, q.1, q.2)) day = (if q.1 = day then [d] else []) ++ dutT (l.map fun q => (d, q.1, q.2)) day := by
      unfold dutT
      rw [List.map_cons, List.filter_cons]
      by_cases e : q.1 = day
      · rw [if_pos (by simpa using e), if_pos e]; rfl
      · rw [if_neg (by simpa using e), if_neg e]; rfl
    rw [e, ih, onL_cons]
    by_cases e : q.1 = day
    · have h0 : onL l day = 0 := onL_none fun r hr => by have := h.1 r hr; omega
      rw [if_pos e, if_pos e, h0, if_neg (by omega), if_pos (by omega)]
      simp
    · rw [if_neg e, if_neg e, Int.zero_add]
      rfl
theorem trip_cons (p : Pl) (d : Nat) (l : List Nat) : trip p (d :: l) = (minsD p (p.duties.getD d default)).map (fun q => (d, q.1, q.2)) ++ trip p l := by simp [trip]
theorem sumT_on (p : Pl) (day : Int) : ∀ mine : List Nat, sumT (trip p mine) day = (mine.map fun d => onP p d day).sum
  | [] => by simp [sumT, trip]
  | d :: l => by
    rw [trip_cons, sumT_app, sumT_on p day l, List.map_cons, List.sum_cons]
    congr 1
    unfold sumT onP onL
    rw [List.map_map]
    rfl
theorem dutT_on (p : Pl) (day : Int) : ∀ mine : List Nat, dutT (trip p mine) day = mine.filter fun d => decide (0 < onP p d day)
  | [] => by simp [dutT, trip]
  | d :: l => by
    rw [trip_cons, dutT_app, dutT_on p day l, dut_one d (mins_ord p _) fun _ => mins_pos, List.filter_cons]
    have : onL (minsD p (p.duties.getD d default)) day = onP p d day := rfl
    rw [this]
    by_cases h : 0 < onP p d day
    · rw [if_pos h, if_pos (decide_eq_true h)]; rfl
    · rw [if_neg h, if_neg (by simpa using h)]; rfl
def kd (p : Pl) (d : Nat) (frm : Int) (m : Nat) : Int := ((List.range m).map fun i : Nat => onP p d (frm + i)).sum
theorem kd_succ (p : Pl) (d : Nat) (frm : Int) (m : Nat) : kd p d frm (m + 1) = kd p d frm m + onP p d (frm + m) := by
  unfold kd
  rw [List.range_succ, List.map_append, List.sum_append]
  simp
theorem kd_zero (p : Pl) (d : Nat) (frm : Int) : kd p d frm 0 = 0 := by simp [kd]
theorem kd_one (p : Pl) (d : Nat) (frm : Int) : kd p d frm 1 = onP p d frm := by simp [kd]
theorem kd_nn (p : Pl) (d : Nat) (frm : Int) : ∀ m, 0 ≤ kd p d frm m
  | 0 => by rw [kd_zero]; omega
  | m + 1 => by
    have := kd_nn p d frm m
    have := onP_nn p d (frm + m)
    rw [kd_succ]; omega
theorem sum_add {α : Type} (f g : α → Int) : ∀ l : List α, (l.map fun x => f x + g x).sum = (l.map f).sum + (l.map g).sum
  | [] => by simp
  | x :: l => by
    have := sum_add f g l
    simp only [List.map_cons, List.sum_cons]
    omega
theorem week7_kd (p : Pl) (day : Int) : ∀ mine : List Nat, week7 (trip p mine) day = (mine.map fun d => kd p d day 7).sum
  | [] => by
    have : ∀ m : Nat, ((List.range m).map fun i : Nat => sumT (trip p []) (day + i)).sum = 0 := fun m => by
      induction m with
      | zero => simp
      | succ m ih => rw [List.range_succ, List.map_append, List.sum_append, ih]; simp [sumT, trip]
    exact this 7
  | d :: l => by
    have ih := week7_kd p day l
    rw [List.map_cons, List.sum_cons, ← ih]
    unfold week7 kd
    rw [← sum_add]
    congr 1
    refine List.map_congr_left fun i _ => ?_
    rw [sumT_on, sumT_on, List.map_cons, List.sum_cons]
/-- the first and the last duty with minutes -/
def lowF (f : Nat → Int) (l : List Nat) : Int := match l.filter (fun d => decide (0 < f d)) with
  | [] => -1
  | d :: _ => d
def highF (f : Nat → Int) (l : List Nat) : Int := match (l.filter (fun d => decide (0 < f d))).getLast? with
  | none => -1
  | some d => d
theorem lowF_snoc (f : Nat → Int) (l : List Nat) (d : Nat) : lowF f (l ++ [d]) = if 0 < f d then (if lowF f l < 0 then (d : Int) else lowF f l) else lowF f l := by
  unfold lowF
  rw [List.filter_append, List.filter_cons]
  by_cases h : 0 < f d
  · rw [if_pos (decide_eq_true h), if_pos h]
    cases hl : l.filter (fun d => decide (0 < f d)) with
    | nil => simp
    | cons x t => simp only [List.cons_append]; rw [if_neg (by omega)]
  · rw [if_neg (by simpa using h), if_neg h]
    simp
theorem highF_snoc (f : Nat → Int) (l : List Nat) (d : Nat) : highF f (l ++ [d]) = if 0 < f d then (d : Int) else highF f l := by
  unfold highF
  rw [List.filter_append, List.filter_cons]
  by_cases h : 0 < f d
  · rw [if_pos (decide_eq_true h), if_pos h]
    simp
  · rw [if_neg (by simpa using h), if_neg h]
    simp
theorem lowF_bd (f : Nat → Int) (l : List Nat) : -1 ≤ lowF f l := by
  unfold lowF
  split <;> omega
theorem low_lo {p : Pl} {mine : List Nat} {day : Int} (h : day ∈ (trip p mine).map (·.2.1)) : lowF (fun d => onP p d day) mine = loT (trip p mine) day := by
  have hne := dutT_ne.2 h
  unfold lowF loT
  rw [← dutT_on]
  cases hd : dutT (trip p mine) day with
  | nil => exact absurd hd hne
  | cons x t => simp
theorem high_hi {p : Pl} {mine : List Nat} (hn : mine.Nodup) {day : Int} (h : day ∈ (trip p mine).map (·.2.1)) : (if highF (fun d => onP p d day) mine = lowF (fun d => onP p d day) mine then -1 else highF (fun d => onP p d day) mine) = hiT (trip p mine) day := by
  have hne := dutT_ne.2 h
  have hnd : (dutT (trip p mine) day).Nodup := by rw [dutT_on]; exact hn.filter _
  unfold highF lowF hiT
  rw [← dutT_on]
  cases hd : dutT (trip p mine) day with
  | nil => exact absurd hd hne
  | cons x t =>
    rw [hd] at hnd
    cases t with
    | nil => simp
    | cons y t =>
      have hl : (x :: y :: t).getLast? = some ((y :: t).getLast (by simp)) := by simp [List.getLast?_eq_some_getLast]
      have hm : (y :: t).getLast (by simp) ∈ y :: t := List.getLast_mem _
      have hxn : (y :: t).getLast (by simp) ≠ x := fun e => by
        rw [List.nodup_cons] at hnd
        rw [e] at hm
        exact hnd.1 hm
      rw [hl]
      dsimp only
      rw [if_neg (by omega), if_pos (by simp)]
      have e2 : (x :: y :: t).getD ((x :: y :: t).length - 1) default = (y :: t).getLast (by simp) := by
        simp only [List.length_cons, Nat.add_sub_cancel, List.getD_cons_succ]
        rw [List.getLast_eq_getElem]
        simp [List.getD]
      rw [e2]
/-- the violations in the order in which the reference inserts them -/
def singR (p : Pl) (w d : Nat) : List Vi := (if skB (p.workers.getD w default) (p.duties.getD d default) = true then [⟨1, w, d, -1⟩] else []) ++ ((if awB (p.workers.getD w default) (p.duties.getD d default) = true then [⟨2, w, d, -1⟩] else []) ++
  (if (p.workers.getD w default).minor = true ∧ niB p (p.duties.getD d default) = true then [⟨5, w, d, -1⟩] else []))
def rstR (p : Pl) (w d : Nat) (l : List Nat) : List Vi := (l.filter (restB p d)).map fun e : Nat => (⟨3, w, d, e⟩ : Vi)
def duL (p : Pl) (w : Nat) (mine : List Nat) (i : Nat) : List Vi := singR p w (mine.getD i default) ++ rstR p w (mine.getD i default) (mine.drop (i + 1))
def dayV (p : Pl) (w : Nat) (T : Tri) (day : Int) : List Vi := (if p.lim.week < week7 T day then [⟨4, w, loT T day, -1⟩] else []) ++ (if (p.workers.getD w default).minor = true ∧ p.lim.minor < sumT T day then [⟨6, w, loT T day, hiT T day⟩] else [])
def ofL (p : Pl) (w : Nat) (mine : List Nat) : List Vi := (List.range mine.length).flatMap (duL p w mine) ++ ((trip p mine).map (·.2.1)).flatMap (dayV p w (trip p mine))
theorem restL_at {p : Pl} {w : Nat} {x : Vi} : ∀ {l : List Nat}, x ∈ restL p w l ↔ ∃ i, i < l.length ∧ x ∈ rstR p w (l.getD i default) (l.drop (i + 1))
  | [] => by simp [restL]
  | d :: l => by
    rw [restL, List.mem_append, restL_at (l := l)]
    constructor
    · rintro (h | ⟨i, h1, h2⟩)
      · exact ⟨0, by simp, by simpa [rstR] using h⟩
      · exact ⟨i + 1, by simpa using h1, by simpa using h2⟩
    · rintro ⟨i, h1, h2⟩
      cases i with
      | zero => left; simpa [rstR] using h2
      | succ i => right; exact ⟨i, by simpa using h1, by simpa using h2⟩
theorem mem_at {l : List Nat} {d : Nat} : d ∈ l ↔ ∃ i, i < l.length ∧ l.getD i default = d := by
  constructor
  · intro h
    obtain ⟨i, hi, e⟩ := List.mem_iff_getElem.1 h
    exact ⟨i, hi, by simp [List.getD, hi, e]⟩
  · rintro ⟨i, hi, e⟩
    rw [← e]
    simp [List.getD, hi]
theorem sing_mem {kind w : Int} {f : Nat → Bool} {mine : List Nat} {x : Vi} : x ∈ sing kind w f mine ↔ ∃ i, i < mine.length ∧ f (mine.getD i default) = true ∧ x = ⟨kind, w, (mine.getD i default : Nat), -1⟩ := by
  unfold sing
  rw [List.mem_map]
  constructor
  · rintro ⟨d, h1, rfl⟩
    rw [List.mem_filter] at h1
    obtain ⟨i, h2, rfl⟩ := mem_at.1 h1.1
    exact ⟨i, h2, h1.2, rfl⟩
  · rintro ⟨i, h1, h2, rfl⟩
    exact ⟨_, List.mem_filter.2 ⟨mem_at.2 ⟨i, h1, rfl⟩, h2⟩, rfl⟩
theorem ifl_mem {c : Prop} [Decidable c] {v x : Vi} : x ∈ (if c then [v] else []) ↔ c ∧ x = v := by
  by_cases h : c
  · rw [if_pos h]; simp [h]
  · rw [if_neg h]; simp [h]
theorem ite_mem' {b : Bool} {l : List Vi} {v : Vi} : v ∈ (if b = true then l else []) ↔ b = true ∧ v ∈ l := by
  by_cases h : b = true
  · rw [if_pos h]; simp [h]
  · rw [if_neg h]; simp [h]
theorem ofL_mem {p : Pl} {w : Nat} {mine : List Nat} {x : Vi} : x ∈ ofL p w mine ↔ x ∈ violW p w mine := by
  unfold ofL violW duL singR dayV weekL minL
  simp only [List.mem_append, List.mem_flatMap, List.mem_range, ifl_mem, ite_mem', sing_mem, restL_at]
  have hW : (x ∈ (((trip p mine).map (·.2.1)).filter fun day => decide (p.lim.week < week7 (trip p mine) day)).map fun day => (⟨4, (w : Int), loT (trip p mine) day, -1⟩ : Vi)) ↔ ∃ day ∈ (trip p mine).map (·.2.1), p.lim.week < week7 (trip p mine) day ∧ x = ⟨4, (w : Int), loT (trip p mine) day, -1⟩ := by
    rw [List.mem_map]
    constructor
    · rintro ⟨day, h1, rfl⟩
      rw [List.mem_filter, decide_eq_true_eq] at h1
      exact ⟨day, h1.1, h1.2, rfl⟩
    · rintro ⟨day, h1, h2, rfl⟩
      exact ⟨day, List.mem_filter.2 ⟨h1, decide_eq_true h2⟩, rfl⟩
  have hM : (x ∈ (((trip p mine).map (·.2.1)).filter fun day => decide (p.lim.minor < sumT (trip p mine) day)).map fun day => (⟨6, (w : Int), loT (trip p mine) day, hiT (trip p mine) day⟩ : Vi)) ↔ ∃ day ∈ (trip p mine).map (·.2.1), p.lim.minor < sumT (trip p mine) day ∧ x = ⟨6, (w : Int), loT (trip p mine) day, hiT (trip p mine) day⟩ := by
    rw [List.mem_map]
    constructor
    · rintro ⟨day, h1, rfl⟩
      rw [List.mem_filter, decide_eq_true_eq] at h1
      exact ⟨day, h1.1, h1.2, rfl⟩
    · rintro ⟨day, h1, h2, rfl⟩
      exact ⟨day, List.mem_filter.2 ⟨h1, decide_eq_true h2⟩, rfl⟩
  rw [hW, hM]
  constructor
  · rintro (⟨i, h1, (⟨h2, h3⟩ | ⟨h2, h3⟩ | ⟨h2, h3⟩) | h2⟩ | ⟨day, h1, (⟨h2, h3⟩ | ⟨h2, h3⟩)⟩)
    · exact .inl ⟨i, h1, h2, h3⟩
    · exact .inr (.inl ⟨i, h1, h2, h3⟩)
    · exact .inr (.inr (.inr (.inr (.inl ⟨h2.1, i, h1, h2.2, h3⟩))))
    · exact .inr (.inr (.inl ⟨i, h1, h2⟩))
    · exact .inr (.inr (.inr (.inl ⟨day, h1, h2, h3⟩)))
    · exact .inr (.inr (.inr (.inr (.inr ⟨h2.1, day, h1, h2.2, h3⟩))))
  · rintro (⟨i, h1, h2, h3⟩ | ⟨i, h1, h2, h3⟩ | ⟨i, h1, h2⟩ | ⟨day, h1, h2, h3⟩ | ⟨h0, i, h1, h2, h3⟩ | ⟨h0, day, h1, h2, h3⟩)
    · exact .inl ⟨i, h1, .inl (.inl ⟨h2, h3⟩)⟩
    · exact .inl ⟨i, h1, .inl (.inr (.inl ⟨h2, h3⟩))⟩
    · exact .inl ⟨i, h1, .inr h2⟩
    · exact .inr ⟨day, h1, .inl ⟨h2, h3⟩⟩
    · exact .inl ⟨i, h1, .inl (.inr (.inr ⟨⟨h0, h2⟩, h3⟩))⟩
    · exact .inr ⟨day, h1, .inr ⟨⟨h0, h2⟩, h3⟩⟩
/-- the whole list of the reference -/
def refAll (p : Pl) (ro : List Int) (k : Nat) : List Vi := (List.range k).flatMap fun w => ofL p w (mineR ro w)
theorem ref_bad (p : Pl) (ro : List Int) : insAll [] (refAll p ro p.workers.length) = badP p ro := by
  refine canV_uniq (insAll_ord .nil) fun x => ?_
  rw [insAll_mem]
  unfold refAll violAll
  simp only [List.mem_flatMap, List.not_mem_nil, or_false, ofL_mem]
theorem refAll_succ (p : Pl) (ro : List Int) (k : Nat) : refAll p ro (k + 1) = refAll p ro k ++ ofL p k (mineR ro k) := by
  unfold refAll
  rw [List.range_succ, List.flatMap_append]
  simp
end Go.Wage
