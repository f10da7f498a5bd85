/-
  Plain part: the reference of chapter 18 (violations).
  Conditions: those of each theorem.
-/
import Derived.Test.YtjfnkmlnbaianaaGreatZF
namespace Go.Wage
open Go.E2
theorem insV_at {v : Vi} : ∀ {l : List Vi} {k : Nat}, k ≤ l.length → (∀ x ∈ l.take k, ltV x v) → (k < l.length → ¬ ltV (l.getD k default) v) → insV v l = if k < l.length ∧ l.getD k default = v then l else l.take k ++ v :: l.drop k
 | [], k, hk, _, _ => by
  have : k = 0 := by simpa using hk
  subst this
  simp [insV]
 | x :: l, 0, _, _, h2 => by
  have h3 := h2 (by simp)
  simp only [List.getD_cons_zero] at h3
  rw [insV]
  by_cases e : v = x
  ·subst e
   rw [if_neg (ltV_irr v), if_pos rfl, if_pos (by simp)]
  ·rw [if_pos (ltV_tot h3 e), if_neg (by simp; exact fun e' => e e'.symm)]
   simp
 | x :: l, k + 1, hk, h1, h2 => by
  have h3 := h1 x (by simp)
  have ih := insV_at (v := v) (l := l) (k := k) (by simpa using hk) (fun p hp => h1 p (by simp [hp])) (fun h => by simpa using h2 (by simpa using h))
  rw [insV, if_neg fun h => ltV_irr _ (ltV_tr h3 h), if_neg fun e => by subst e; exact ltV_irr _ h3, ih]
  by_cases e : k < l.length ∧ l.getD k default = v
  ·rw [if_pos e, if_pos (by simpa using e)]
  ·rw [if_neg e, if_neg (by simpa using e)]
   simp
def insAll (out l : List Vi) : List Vi := l.foldl (fun o v => insV v o) out
theorem insAll_app (out a b : List Vi) : insAll out (a ++ b) = insAll (insAll out a) b := by simp [insAll, List.foldl_append]
theorem insAll_mem {x : Vi} : ∀ {l out : List Vi}, x ∈ insAll out l ↔ x ∈ l ∨ x ∈ out
 | [], out => by simp [insAll]
 | v :: l, out => by
  have ih := insAll_mem (x := x) (l := l) (out := insV v out)
  have e : insAll out (v :: l) = insAll (insV v out) l := rfl
  rw [e, ih, insV_mem, List.mem_cons]
  constructor
  ·rintro (h | h | h)
   ·exact .inl (.inr h)
   ·exact .inl (.inl h)
   ·exact .inr h
  ·rintro ((h | h) | h)
   ·exact .inr (.inl h)
   ·exact .inl h
   ·exact .inr (.inr h)
theorem insAll_ord : ∀ {l out : List Vi}, out.Pairwise ltV → (insAll out l).Pairwise ltV
 | [], _, h => h
 | v :: l, out, h => insAll_ord (l := l) (out := insV v out) (insV_ord h)
theorem insV_len' (v : Vi) : ∀ l : List Vi, (insV v l).length ≤ l.length + 1
 | [] => by simp [insV]
 | x :: l => by
  have := insV_len' v l
  rw [insV]
  split
  ·simp
  ·split
   ·simp
   ·simp only [List.length_cons]; omega
theorem insAll_len : ∀ (l out : List Vi), (insAll out l).length ≤ out.length + l.length
 | [], out => by simp [insAll]
 | v :: l, out => by
  have h1 := insAll_len l (insV v out)
  have h2 := insV_len' v out
  have e : insAll out (v :: l) = insAll (insV v out) l := rfl
  rw [e, List.length_cons]
  omega
theorem mins_pos {p : Pl} {d : Du} {q : Int × Int} (h : q ∈ minsD p d) : 0 < q.2 := by
 unfold minsD splitZ prt at h
 have := prtZ_mem.1 h
 omega
theorem mins_ord (p : Pl) (d : Du) : (minsD p d).Pairwise fun a b => a.1 < b.1 := prt_ord _ _ _
def onL (l : List (Int × Int)) (day : Int) : Int := (l.map fun q => if q.1 = day then q.2 else 0).sum
def onP (p : Pl) (d : Nat) (day : Int) : Int := onL (minsD p (p.duties.getD d default)) day
theorem onL_cons (q : Int × Int) (l : List (Int × Int)) (day : Int) : onL (q :: l) day = (if q.1 = day then q.2 else 0) + onL l day := by simp [onL]
theorem onL_none {l : List (Int × Int)} {day : Int} (h : ∀ q ∈ l, q.1 ≠ day) : onL l day = 0 := by
 induction l with
 | nil => rfl
 | cons q l ih =>
  rw [onL_cons, if_neg (h q (by simp)), ih fun r hr => h r (by simp [hr])]
  rfl
theorem onL_first {day : Int} : ∀ {l : List (Int × Int)} {k : Nat}, l.Pairwise (fun a b => a.1 < b.1) → k < l.length → (l.getD k default).1 = day → onL l day = (l.getD k default).2
 | q :: l, 0, h, _, e => by
  rw [List.pairwise_cons] at h
  simp only [List.getD_cons_zero] at e ⊢
  rw [onL_cons, if_pos e, onL_none fun r hr => by have := h.1 r hr; omega]
  omega
 | q :: l, k + 1, h, hk, e => by
  rw [List.pairwise_cons] at h
  simp only [List.getD_cons_succ] at e ⊢
  have hk' : k < l.length := by simpa using hk
  have hm : l.getD k default ∈ l := by simp [List.getD, hk']
  have := h.1 _ hm
  rw [onL_cons, if_neg (by omega), onL_first h.2 hk' e]
  omega
 | [], k, _, h, _ => by simp at h
theorem onL_nn {l : List (Int × Int)} {day : Int} (h : ∀ q ∈ l, 0 < q.2) : 0 ≤ onL l day := by
 induction l with
 | nil => exact Int.le_refl _
 | cons q l ih =>
  have h1 := h q (by simp)
  have h2 := ih fun r hr => h r (by simp [hr])
  rw [onL_cons]
  split <;> omega
theorem onP_nn (p : Pl) (d : Nat) (day : Int) : 0 ≤ onP p d day := onL_nn fun _ => mins_pos
theorem dut_one (d : Nat) {day : Int} : ∀ {l : List (Int × Int)}, l.Pairwise (fun a b => a.1 < b.1) → (∀ q ∈ l, 0 < q.2) → dutT (l.map fun q => (d, q.1, q.2)) day = if 0 < onL l day then [d] else []
 | [], _, _ => by simp [dutT, onL]
 | q :: l, h, hp => by
  rw [List.pairwise_cons] at h
  have ih := dut_one d (day := day) h.2 fun r hr => hp r (by simp [hr])
  have h1 := hp q (by simp)
  have e : dutT ((q :: l).map fun q => (d, q.1, q.2)) day = (if q.1 = day then [d] else []) ++ dutT (l.map fun q => (d, q.1, q.2)) day := by
   unfold dutT
   rw [List.map_cons, List.filter_cons]
   by_cases e : q.1 = day
   ·rw [if_pos (by simpa using e), if_pos e]; rfl
   ·rw [if_neg (by simpa using e), if_neg e]; rfl
  rw [e, ih, onL_cons]
  by_cases e : q.1 = day
  ·have h0 : onL l day = 0 := onL_none fun r hr => by have := h.1 r hr; omega
   rw [if_pos e, if_pos e, h0, if_neg (by omega), if_pos (by omega)]
   simp
  ·rw [if_neg e, if_neg e, Int.zero_add]
   rfl
theorem trip_cons (p : Pl) (d : Nat) (l : List Nat) : trip p (d :: l) = (minsD p (p.duties.getD d default)).map (fun q => (d, q.1, q.2)) ++ trip p l := by simp [trip]
theorem sumT_on (p : Pl) (day : Int) : ∀ mine : List Nat, sumT (trip p mine) day = (mine.map fun d => onP p d day).sum
 | [] => by simp [sumT, trip]
 | d :: l => by
  rw [trip_cons, sumT_app, sumT_on p day l, List.map_cons, List.sum_cons]
  congr 1
  unfold sumT onP onL
  rw [List.map_map]
  rfl
theorem dutT_on (p : Pl) (day : Int) : ∀ mine : List Nat, dutT (trip p mine) day = mine.filter fun d => decide (0 < onP p d day)
 | [] => by simp [dutT, trip]
 | d :: l => by
  rw [trip_cons, dutT_app, dutT_on p day l, dut_one d (mins_ord p _) fun _ => mins_pos, List.filter_cons]
  have : onL (minsD p (p.duties.getD d default)) day = onP p d day := rfl
  rw [this]
  by_cases h : 0 < onP p d day
  ·rw [if_pos h, if_pos (decide_eq_true h)]; rfl
  ·rw [if_neg h, if_neg (by simpa using h)]; rfl
def kd (p : Pl) (d : Nat) (frm : Int) (m : Nat) : Int := ((List.range m).map fun i : Nat => onP p d (frm + i)).sum
theorem kd_succ (p : Pl) (d : Nat) (frm : Int) (m : Nat) : kd p d frm (m + 1) = kd p d frm m + onP p d (frm + m) := by
 unfold kd
 rw [List.range_succ, List.map_append, List.sum_append]
 simp
theorem kd_zero (p : Pl) (d : Nat) (frm : Int) : kd p d frm 0 = 0 := by simp [kd]
theorem kd_one (p : Pl) (d : Nat) (frm : Int) : kd p d frm 1 = onP p d frm := by simp [kd]
theorem kd_nn (p : Pl) (d : Nat) (frm : Int) : ∀ m, 0 ≤ kd p d frm m
 | 0 => by rw [kd_zero]; omega
 | m + 1 => by
  have := kd_nn p d frm m
  have := onP_nn p d (frm + m)
  rw [kd_succ]; omega
theorem sum_add {α : Type} (f g : α → Int) : ∀ l : List α, (l.map fun x => f x + g x).sum = (l.map f).sum + (l.map g).sum
 | [] => by simp
 | x :: l => by
  have := sum_add f g l
  simp only [List.map_cons, List.sum_cons]
  omega
theorem week7_kd (p : Pl) (day : Int) : ∀ mine : List Nat, week7 (trip p mine) day = (mine.map fun d => kd p d day 7).sum
 | [] => by
  have : ∀ m : Nat, ((List.range m).map fun i : Nat => sumT (trip p []) (day + i)).sum = 0 := fun m => by
   induction m with
   | zero => simp
   | succ m ih => rw [List.range_succ, List.map_append, List.sum_append, ih]; simp [sumT, trip]
  exact this 7
 | d :: l => by
  have ih := week7_kd p day l
  rw [List.map_cons, List.sum_cons, ← ih]
  unfold week7 kd
  rw [← sum_add]
  congr 1
  refine List.map_congr_left fun i _ => ?_
  rw [sumT_on, sumT_on, List.map_cons, List.sum_cons]
def lowF (f : Nat → Int) (l : List Nat) : Int := match l.filter (fun d => decide (0 < f d)) with
 | [] => -1
 | d :: _ => d
def highF (f : Nat → Int) (l : List Nat) : Int := match (l.filter (fun d => decide (0 < f d))).getLast? with
 | none => -1
 | some d => d
theorem lowF_snoc (f : Nat → Int) (l : List Nat) (d : Nat) : lowF f (l ++ [d]) = if 0 < f d then (if lowF f l < 0 then (d : Int) else lowF f l) else lowF f l := by
 unfold lowF
 rw [List.filter_append, List.filter_cons]
 by_cases h : 0 < f d
 ·rw [if_pos (decide_eq_true h), if_pos h]
  cases hl : l.filter (fun d => decide (0 < f d)) with
  | nil => simp
  | cons x t => simp only [List.cons_append]; rw [if_neg (by omega)]
 ·rw [if_neg (by simpa using h), if_neg h]
  simp
theorem highF_snoc (f : Nat → Int) (l : List Nat) (d : Nat) : highF f (l ++ [d]) = if 0 < f d then (d : Int) else highF f l := by
 unfold highF
 rw [List.filter_append, List.filter_cons]
 by_cases h : 0 < f d
 ·rw [if_pos (decide_eq_true h), if_pos h]
  simp
 ·rw [if_neg (by simpa using h), if_neg h]
  simp
theorem low_lo {p : Pl} {mine : List Nat} {day : Int} (h : day ∈ (trip p mine).map (·.2.1)) : lowF (fun d => onP p d day) mine = loT (trip p mine) day := by
 have hne := dutT_ne.2 h
 unfold lowF loT
 rw [← dutT_on]
 cases hd : dutT (trip p mine) day with
 | nil => exact absurd hd hne
 | cons x t => simp
theorem high_hi {p : Pl} {mine : List Nat} (hn : mine.Nodup) {day : Int} (h : day ∈ (trip p mine).map (·.2.1)) : (if highF (fun d => onP p d day) mine = lowF (fun d => onP p d day) mine then -1 else highF (fun d => onP p d day) mine) = hiT (trip p mine) day := by
 have hne := dutT_ne.2 h
 have hnd : (dutT (trip p mine) day).Nodup := by rw [dutT_on]; exact hn.filter _
 unfold highF lowF hiT
 rw [← dutT_on]
 cases hd : dutT (trip p mine) day with
 | nil => exact absurd hd hne
 | cons x t =>
  rw [hd] at hnd
  cases t with
  | nil => simp
  | cons y t =>
   have hl : (x :: y :: t).getLast? = some ((y :: t).getLast (by simp)) := by simp [List.getLast?_eq_some_getLast]
   have hm : (y :: t).getLast (by simp) ∈ y :: t := List.getLast_mem _
   have hxn : (y :: t).getLast (by simp) ≠ x := fun e => by
    rw [List.nodup_cons] at hnd
    rw [e] at hm
    exact hnd.1 hm
   rw [hl]
   dsimp only
   rw [if_neg (by omega), if_pos (by simp)]
   have e2 : (x :: y :: t).getD ((x :: y :: t).length - 1) default = (y :: t).getLast (by simp) := by
    simp only [List.length_cons, Nat.add_sub_cancel, List.getD_cons_succ]
    rw [List.getLast_eq_getElem]
    simp [List.getD]
   rw [e2]
def singR (p : Pl) (w d : Nat) : List Vi := (if skB (p.workers.getD w default) (p.duties.getD d default) = true then [⟨1, w, d, -1⟩] else []) ++ ((if awB (p.workers.getD w default) (p.duties.getD d default) = true then [⟨2, w, d, -1⟩] else []) ++
 (if (p.workers.getD w default).minor = true ∧ niB p (p.duties.getD d default) = true then [⟨5, w, d, -1⟩] else []))
def rstR (p : Pl) (w d : Nat) (l : List Nat) : List Vi := (l.filter (restB p d)).map fun e : Nat => (⟨3, w, d, e⟩ : Vi)
def duL (p : Pl) (w : Nat) (mine : List Nat) (i : Nat) : List Vi := singR p w (mine.getD i default) ++ rstR p w (mine.getD i default) (mine.drop (i + 1))
def dayV (p : Pl) (w : Nat) (T : Tri) (day : Int) : List Vi := (if p.lim.week < week7 T day then [⟨4, w, loT T day, -1⟩] else []) ++ (if (p.workers.getD w default).minor = true ∧ p.lim.minor < sumT T day then [⟨6, w, loT T day, hiT T day⟩] else [])
def ofL (p : Pl) (w : Nat) (mine : List Nat) : List Vi := (List.range mine.length).flatMap (duL p w mine) ++ ((trip p mine).map (·.2.1)).flatMap (dayV p w (trip p mine))
theorem restL_at {p : Pl} {w : Nat} {x : Vi} : ∀ {l : List Nat}, x ∈ restL p w l ↔ ∃ i, i < l.length ∧ x ∈ rstR p w (l.getD i default) (l.drop (i + 1))
 | [] => by simp [restL]
 | d :: l => by
  rw [restL, List.mem_append, restL_at (l := l)]
  constructor
  ·rintro (h | ⟨i, h1, h2⟩)
   ·exact ⟨0, by simp, by simpa [rstR] using h⟩
   ·exact ⟨i + 1, by simpa using h1, by simpa using h2⟩
  ·rintro ⟨i, h1, h2⟩
   cases i with
   | zero => left; simpa [rstR] using h2
   | succ i => right; exact ⟨i, by simpa using h1, by simpa using h2⟩
theorem mem_at {l : List Nat} {d : Nat} : d ∈ l ↔ ∃ i, i < l.length ∧ l.getD i default = d := by
 constructor
 ·intro h
  obtain ⟨i, hi, e⟩ := List.mem_iff_getElem.1 h
  exact ⟨i, hi, by simp [List.getD, hi, e]⟩
 ·rintro ⟨i, hi, e⟩
  rw [← e]
  simp [List.getD, hi]
theorem sing_mem {kind w : Int} {f : Nat → Bool} {mine : List Nat} {x : Vi} : x ∈ sing kind w f mine ↔ ∃ i, i < mine.length ∧ f (mine.getD i default) = true ∧ x = ⟨kind, w, (mine.getD i default : Nat), -1⟩ := by
 unfold sing
 rw [List.mem_map]
 constructor
 ·rintro ⟨d, h1, rfl⟩
  rw [List.mem_filter] at h1
  obtain ⟨i, h2, rfl⟩ := mem_at.1 h1.1
  exact ⟨i, h2, h1.2, rfl⟩
 ·rintro ⟨i, h1, h2, rfl⟩
  exact ⟨_, List.mem_filter.2 ⟨mem_at.2 ⟨i, h1, rfl⟩, h2⟩, rfl⟩
theorem ifl_mem {c : Prop} [Decidable c] {v x : Vi} : x ∈ (if c then [v] else []) ↔ c ∧ x = v := by
 by_cases h : c
 ·rw [if_pos h]; simp [h]
 ·rw [if_neg h]; simp [h]
theorem ite_mem' {b : Bool} {l : List Vi} {v : Vi} : v ∈ (if b = true then l else []) ↔ b = true ∧ v ∈ l := by
 by_cases h : b = true
 ·rw [if_pos h]; simp [h]
 ·rw [if_neg h]; simp [h]
theorem ofL_mem {p : Pl} {w : Nat} {mine : List Nat} {x : Vi} : x ∈ ofL p w mine ↔ x ∈ violW p w mine := by
 unfold ofL violW duL singR dayV weekL minL
 simp only [List.mem_append, List.mem_flatMap, List.mem_range, ifl_mem, ite_mem', sing_mem, restL_at]
 have hW : (x ∈ (((trip p mine).map (·.2.1)).filter fun day => decide (p.lim.week < week7 (trip p mine) day)).map fun day => (⟨4, (w : Int), loT (trip p mine) day, -1⟩ : Vi)) ↔ ∃ day ∈ (trip p mine).map (·.2.1), p.lim.week < week7 (trip p mine) day ∧ x = ⟨4, (w : Int), loT (trip p mine) day, -1⟩ := by
  rw [List.mem_map]
  constructor
  ·rintro ⟨day, h1, rfl⟩
   rw [List.mem_filter, decide_eq_true_eq] at h1
   exact ⟨day, h1.1, h1.2, rfl⟩
  ·rintro ⟨day, h1, h2, rfl⟩
   exact ⟨day, List.mem_filter.2 ⟨h1, decide_eq_true h2⟩, rfl⟩
 have hM : (x ∈ (((trip p mine).map (·.2.1)).filter fun day => decide (p.lim.minor < sumT (trip p mine) day)).map fun day => (⟨6, (w : Int), loT (trip p mine) day, hiT (trip p mine) day⟩ : Vi)) ↔ ∃ day ∈ (trip p mine).map (·.2.1), p.lim.minor < sumT (trip p mine) day ∧ x = ⟨6, (w : Int), loT (trip p mine) day, hiT (trip p mine) day⟩ := by
  rw [List.mem_map]
  constructor
  ·rintro ⟨day, h1, rfl⟩
   rw [List.mem_filter, decide_eq_true_eq] at h1
   exact ⟨day, h1.1, h1.2, rfl⟩
  ·rintro ⟨day, h1, h2, rfl⟩
   exact ⟨day, List.mem_filter.2 ⟨h1, decide_eq_true h2⟩, rfl⟩
 rw [hW, hM]
 constructor
 ·rintro (⟨i, h1, (⟨h2, h3⟩ | ⟨h2, h3⟩ | ⟨h2, h3⟩) | h2⟩ | ⟨day, h1, (⟨h2, h3⟩ | ⟨h2, h3⟩)⟩)
  ·exact .inl ⟨i, h1, h2, h3⟩
  ·exact .inr (.inl ⟨i, h1, h2, h3⟩)
  ·exact .inr (.inr (.inr (.inr (.inl ⟨h2.1, i, h1, h2.2, h3⟩))))
  ·exact .inr (.inr (.inl ⟨i, h1, h2⟩))
  ·exact .inr (.inr (.inr (.inl ⟨day, h1, h2, h3⟩)))
  ·exact .inr (.inr (.inr (.inr (.inr ⟨h2.1, day, h1, h2.2, h3⟩))))
 ·rintro (⟨i, h1, h2, h3⟩ | ⟨i, h1, h2, h3⟩ | ⟨i, h1, h2⟩ | ⟨day, h1, h2, h3⟩ | ⟨h0, i, h1, h2, h3⟩ | ⟨h0, day, h1, h2, h3⟩)
  ·exact .inl ⟨i, h1, .inl (.inl ⟨h2, h3⟩)⟩
  ·exact .inl ⟨i, h1, .inl (.inr (.inl ⟨h2, h3⟩))⟩
  ·exact .inl ⟨i, h1, .inr h2⟩
  ·exact .inr ⟨day, h1, .inl ⟨h2, h3⟩⟩
  ·exact .inl ⟨i, h1, .inl (.inr (.inr ⟨⟨h0, h2⟩, h3⟩))⟩
  ·exact .inr ⟨day, h1, .inr ⟨⟨h0, h2⟩, h3⟩⟩
def refAll (p : Pl) (ro : List Int) (k : Nat) : List Vi := (List.range k).flatMap fun w => ofL p w (mineR ro w)
theorem ref_bad (p : Pl) (ro : List Int) : insAll [] (refAll p ro p.workers.length) = badP p ro := by
 refine canV_uniq (insAll_ord .nil) fun x => ?_
 rw [insAll_mem]
 unfold refAll violAll
 simp only [List.mem_flatMap, List.not_mem_nil, or_false, ofL_mem]
theorem refAll_succ (p : Pl) (ro : List Int) (k : Nat) : refAll p ro (k + 1) = refAll p ro k ++ ofL p k (mineR ro k) := by
 unfold refAll
 rw [List.range_succ, List.flatMap_append]
 simp
end Go.Wage
