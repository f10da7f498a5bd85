/-
  Texts DA, DB, DC, DD, DG, DM.
  Conditions: those of each theorem.
-/
import Derived.Test.YtjfnkmlnbaianaaGreatGA
namespace Go.Wage
def ddL (l : List Lt) : List Lt := l.foldl (fun a x => if a.contains x then a else a ++ [x]) []
theorem ddL_snoc (l : List Lt) (x : Lt) : ddL (l ++ [x]) = if (ddL l).contains x then ddL l else ddL l ++ [x] := by
 unfold ddL
 rw [List.foldl_append]
 rfl
theorem rev_ind {p : List Lt → Prop} (h0 : p []) (h1 : ∀ l x, p l → p (l ++ [x])) : ∀ l, p l := fun l => by
 rw [← List.reverse_reverse l]
 induction l.reverse with
 | nil => exact h0
 | cons y l ih => rw [List.reverse_cons]; exact h1 _ _ ih
theorem ddL_mem {x : Lt} (l : List Lt) : x ∈ ddL l ↔ x ∈ l := by
 refine rev_ind (p := fun l => ∀ x, x ∈ ddL l ↔ x ∈ l) ?_ (fun l y ih => ?_) l x
 ·intro x; simp [ddL]
 ·intro x
  rw [ddL_snoc]
  split
  ·rename_i h
   rw [List.contains_iff_mem, ih] at h
   rw [ih, List.mem_append, List.mem_singleton]
   exact ⟨.inl, fun hh => hh.elim id fun e => by rw [e]; exact h⟩
  ·rw [List.mem_append, List.mem_append, ih]
theorem ddL_len (l : List Lt) : (ddL l).length ≤ l.length := by
 refine rev_ind (p := fun l => (ddL l).length ≤ l.length) ?_ (fun l y ih => ?_) l
 ·simp [ddL]
 ·rw [ddL_snoc]
  split
  ·rw [List.length_append]; omega
  ·rw [List.length_append, List.length_append]; simpa using ih
theorem ddL_nodup (l : List Lt) : (ddL l).Nodup := by
 refine rev_ind (p := fun l => (ddL l).Nodup) (by simp [ddL]) (fun l y ih => ?_) l
 rw [ddL_snoc]
 split
 ·exact ih
 ·rename_i h
  rw [List.contains_iff_mem] at h
  rw [List.nodup_append]
  exact ⟨ih, by simp, fun a ha b hb => by rw [List.mem_singleton] at hb; subst hb; exact fun e => h (by rw [← e]; exact ha)⟩
theorem ddL_filter (f : Lt → Bool) (l : List Lt) : ddL (l.filter f) = (ddL l).filter f := by
 refine rev_ind (p := fun l => ddL (l.filter f) = (ddL l).filter f) rfl (fun l y ih => ?_) l
 rw [List.filter_append, List.filter_cons, List.filter_nil, ddL_snoc]
 by_cases hf : f y = true
 ·rw [if_pos hf, ddL_snoc, ih]
  have hc : ((ddL l).filter f).contains y = (ddL l).contains y := by
   rw [Bool.eq_iff_iff, List.contains_iff_mem, List.contains_iff_mem, List.mem_filter]
   exact ⟨fun h => h.1, fun h => ⟨h, hf⟩⟩
  rw [hc]
  split
  ·rfl
  ·rw [List.filter_append, List.filter_cons, List.filter_nil, if_pos hf]
 ·rw [if_neg hf, List.append_nil, ih]
  split
  ·rfl
  ·rw [List.filter_append, List.filter_cons, List.filter_nil, if_neg hf, List.append_nil]
def opnL (out cl : List Lt) : List Lt := ddL (openL out cl)
theorem opnL_eq (out cl : List Lt) : opnL out cl = (ddL cl).filter fun l => !out.contains (negL l) := ddL_filter _ _
def satL (out cl : List Lt) : Bool := cl.any out.contains
theorem opn_mem {out cl : List Lt} {x : Lt} : x ∈ opnL out cl ↔ x ∈ cl ∧ negL x ∉ out := by
 unfold opnL openL
 rw [ddL_mem, List.mem_filter, Bool.not_eq_true', List.contains_eq_mem, decide_eq_false_iff_not]
theorem sat_iff {out cl : List Lt} : satL out cl = true ↔ ∃ x ∈ cl, x ∈ out := by
 unfold satL
 rw [List.any_eq_true]
 simp only [List.contains_iff_mem]
theorem sat_snoc (out cl : List Lt) (x : Lt) : satL (out ++ [x]) cl = (satL out cl || cl.contains x) := by
 rw [Bool.eq_iff_iff, Bool.or_eq_true, sat_iff, sat_iff, List.contains_iff_mem]
 constructor
 ·rintro ⟨y, h1, h2⟩
  rcases List.mem_append.1 h2 with h2 | h2
  ·exact .inl ⟨y, h1, h2⟩
  ·rw [List.mem_singleton] at h2
   subst h2
   exact .inr h1
 ·rintro (⟨y, h1, h2⟩ | h)
  ·exact ⟨y, h1, by simp [h2]⟩
  ·exact ⟨x, h, by simp⟩
theorem filter_one {α : Type} [DecidableEq α] {l : List α} (hn : l.Nodup) {f g : α → Bool} {y : α} (hg : ∀ z, g z = (f z && !decide (z = y))) : (l.filter g).length = (l.filter f).length - if y ∈ l ∧ f y = true then 1 else 0 := by
 induction l with
 | nil => simp
 | cons a l ih =>
  rw [List.nodup_cons] at hn
  have ih := ih hn.2
  rw [List.filter_cons, List.filter_cons, hg a]
  by_cases e : a = y
  ·subst e
   have h1 : ¬ (a ∈ l ∧ f a = true) := fun h => hn.1 h.1
   rw [if_neg h1] at ih
   by_cases hf : f a = true
   ·simp [hf, ih]
   ·simp [hf, ih]
  ·have h1 : (y ∈ a :: l ∧ f y = true) ↔ (y ∈ l ∧ f y = true) := by
    rw [List.mem_cons]
    exact ⟨fun h => ⟨h.1.resolve_left (Ne.symm e), h.2⟩, fun h => ⟨.inr h.1, h.2⟩⟩
   simp only [h1]
   by_cases hf : f a = true
   ·have hd : (!decide (a = y)) = true := by simp [e]
    rw [hf, hd]
    simp only [Bool.and_self, if_true, List.length_cons]
    by_cases hy : y ∈ l ∧ f y = true
    ·rw [if_pos hy] at ih ⊢
     have : 0 < (l.filter f).length := List.length_pos_iff.2 fun h0 => by
      have := List.mem_filter.2 hy
      rw [h0] at this
      cases this
     omega
    ·rw [if_neg hy] at ih ⊢
     omega
   ·rw [Bool.eq_false_iff.2 hf]
    simp only [Bool.false_and, Bool.false_eq_true, if_false]
    exact ih
theorem opn_snoc {out cl : List Lt} {x : Lt} (hx : x ∉ out) : (opnL (out ++ [x]) cl).length = (opnL out cl).length - if negL x ∈ cl then 1 else 0 := by
 rw [opnL_eq, opnL_eq]
 have h1 := filter_one (ddL_nodup cl) (f := fun l => !out.contains (negL l)) (g := fun l => !(out ++ [x]).contains (negL l)) (y := negL x) fun z => by
  rw [Bool.eq_iff_iff]
  simp only [Bool.and_eq_true, Bool.not_eq_true', List.contains_eq_mem, decide_eq_false_iff_not, List.mem_append, List.mem_singleton, not_or]
  constructor
  ·rintro ⟨a, b⟩
   exact ⟨a, fun e => b (by rw [e, negL_negL])⟩
  ·rintro ⟨a, b⟩
   exact ⟨a, fun e => b (by rw [← e, negL_negL])⟩
 rw [h1]
 congr 1
 have h2 : (negL x ∈ ddL cl ∧ (!out.contains (negL (negL x))) = true) ↔ negL x ∈ cl := by
  rw [ddL_mem, negL_negL, Bool.not_eq_true', List.contains_eq_mem, decide_eq_false_iff_not]
  exact ⟨fun h => h.1, fun h => ⟨h, hx⟩⟩
 simp only [h2]
theorem opn_dup {out cl : List Lt} {x : Lt} (hx : x ∈ out) : opnL (out ++ [x]) cl = opnL out cl := by
 unfold opnL openL
 congr 1
 apply List.filter_congr
 intro l _
 rw [Bool.eq_iff_iff]
 simp only [Bool.not_eq_true', List.contains_eq_mem, decide_eq_false_iff_not, List.mem_append, List.mem_singleton, not_or]
 exact ⟨fun h => h.1, fun h => ⟨h, fun e => h (by rw [e]; exact hx)⟩⟩
theorem sat_dup {out cl : List Lt} {x : Lt} (hx : x ∈ out) : satL (out ++ [x]) cl = satL out cl := by
 rw [sat_snoc]
 cases h : cl.contains x with
 | false => rw [Bool.or_false]
 | true =>
  rw [List.contains_iff_mem] at h
  rw [sat_iff.2 ⟨x, h, hx⟩]
  rfl
def falC (out cl : List Lt) : Bool := decide (opnL out cl = [])
def uniC (out cl : List Lt) : Bool := decide ((opnL out cl).length = 1) && !satL out cl
def litC (out cl : List Lt) : Lt := (opnL out cl).getD 0 default
def refU (cs : List (List Lt)) : Nat → List Lt → List Lt × Int
 | 0, out => (out, -1)
 | f + 1, out => match cs.findIdx? (falC out) with
  | some i => (out, (i : Int))
  | none => match cs.findIdx? (uniC out) with
   | none => (out, -1)
   | some u => refU cs f (out ++ [litC out (cs.getD u default)])
def unsN (cs : List (List Lt)) (out : List Lt) : Nat := (cs.filter fun c => !satL out c).length
theorem filter_lt {α : Type} {f g : α → Bool} {l : List α} (h : ∀ x ∈ l, g x = true → f x = true) {y : α} (hy : y ∈ l) (h1 : f y = true) (h2 : g y = false) : (l.filter g).length < (l.filter f).length := by
 induction l with
 | nil => cases hy
 | cons a l ih =>
  have hle : (l.filter g).length ≤ (l.filter f).length := by
   clear ih hy
   induction l with
   | nil => simp
   | cons b l ih =>
    have := ih fun x hx => h x (by rcases List.mem_cons.1 hx with rfl | hx <;> simp_all)
    have hb := h b (by simp)
    rw [List.filter_cons, List.filter_cons]
    by_cases hg : g b = true
    ·rw [if_pos hg, if_pos (hb hg), List.length_cons, List.length_cons]; omega
    ·rw [if_neg hg]
     split
     ·rw [List.length_cons]; omega
     ·exact this
  rw [List.filter_cons, List.filter_cons]
  rcases List.mem_cons.1 hy with rfl | hy
  ·rw [if_pos h1, if_neg (by rw [h2]; simp), List.length_cons]
   omega
  ·have := ih (fun x hx => h x (by simp [hx])) hy
   have ha := h a (by simp)
   by_cases hg : g a = true
   ·rw [if_pos hg, if_pos (ha hg), List.length_cons, List.length_cons]; omega
   ·rw [if_neg hg]
    split
    ·rw [List.length_cons]; omega
    ·exact this
theorem uns_lt {cs : List (List Lt)} {out : List Lt} {c : List Lt} (hc : c ∈ cs) (hu : uniC out c = true) : unsN cs (out ++ [litC out c]) < unsN cs out := by
 unfold uniC at hu
 simp only [Bool.and_eq_true, decide_eq_true_eq, Bool.not_eq_true'] at hu
 unfold unsN
 refine filter_lt (fun x _ h => ?_) hc (by rw [hu.2]; rfl) ?_
 ·rw [sat_snoc, Bool.not_or, Bool.and_eq_true] at h
  exact h.1
 ·have : litC out c ∈ opnL out c := by
   unfold litC
   have h0 : 0 < (opnL out c).length := by omega
   simp [List.getD, h0]
  rw [sat_snoc]
  simp [(opn_mem.1 this).1]
theorem find_get {α : Type} [Inhabited α] {f : α → Bool} {l : List α} {i : Nat} (h : l.findIdx? f = some i) : i < l.length ∧ f (l.getD i default) = true ∧ ∀ j, j < i → f (l.getD j default) = false := by
 rw [List.findIdx?_eq_some_iff_getElem] at h
 obtain ⟨h1, h2, h3⟩ := h
 refine ⟨h1, by simp [List.getD, h1, h2], fun j hj => ?_⟩
 have := h3 j hj
 have hjl : j < l.length := by omega
 simp [List.getD, hjl]
 simpa using this
theorem refU_more {cs : List (List Lt)} : ∀ (f g : Nat) (out : List Lt), unsN cs out < f → unsN cs out < g → refU cs f out = refU cs g out
 | 0, _, _, h, _ => by omega
 | _ + 1, 0, _, _, h => by omega
 | f + 1, g + 1, out, hf, hg => by
  rw [refU, refU]
  cases h1 : cs.findIdx? (falC out) with
  | some i => rfl
  | none =>
   dsimp only
   cases h2 : cs.findIdx? (uniC out) with
   | none => rfl
   | some u =>
    dsimp only
    have h3 := find_get h2
    have hm : cs.getD u default ∈ cs := by simp [List.getD, h3.1]
    have := uns_lt hm h3.2.1
    exact refU_more f g _ (by omega) (by omega)
def unitU (cs : List (List Lt)) (given : List Lt) : List Lt × Int := refU cs (cs.length + 1) given
theorem uns_le (cs : List (List Lt)) (out : List Lt) : unsN cs out ≤ cs.length := List.length_filter_le _ _
theorem unitU_eq {cs : List (List Lt)} {given : List Lt} {f : Nat} (h : unsN cs given < f) : refU cs f given = unitU cs given :=
 refU_more _ _ _ h (by have := uns_le cs given; omega)
end Go.Wage
namespace Go.Wage
def swp (us : List Int) (i j : Nat) : List Int := (us.set i (us.getD j default)).set j (us.getD i default)
theorem swp_len (us : List Int) (i j : Nat) : (swp us i j).length = us.length := by simp [swp]
theorem swp_get {us : List Int} {i j : Nat} (hi : i < us.length) (hj : j < us.length) (k : Nat) : (swp us i j).getD k default = if k = j then us.getD i default else if k = i then us.getD j default else us.getD k default := by
 unfold swp
 simp only [List.getD, List.getElem?_set, List.length_set]
 by_cases h1 : j = k
 ·subst h1
  simp [hj]
 ·rw [if_neg h1, if_neg (Ne.symm h1)]
  by_cases h2 : i = k
  ·subst h2
   simp [hi]
  ·rw [if_neg h2, if_neg (Ne.symm h2)]
theorem set_perm : ∀ {us : List Int} {i : Nat} (x : Int), i < us.length → (us.getD i default :: us.set i x).Perm (x :: us)
 | [], _, _, h => by simp at h
 | u :: us, 0, x, _ => by
  simp only [List.getD, List.getElem?_cons_zero, Option.getD_some, List.set_cons_zero]
  exact List.Perm.swap _ _ _
 | u :: us, i + 1, x, h => by
  have ih := set_perm (us := us) (i := i) x (by simpa using h)
  have e : (u :: us).getD (i + 1) default = us.getD i default := by simp [List.getD]
  rw [e, List.set_cons_succ]
  exact (List.Perm.swap _ _ _).trans ((ih.cons u).trans (List.Perm.swap _ _ _))
theorem swp_perm {us : List Int} {i j : Nat} (hi : i < us.length) (hj : j < us.length) : (swp us i j).Perm us := by
 by_cases e : i = j
 ·subst e
  unfold swp
  rw [List.set_set]
  have : us.set i (us.getD i default) = us := by
   apply List.ext_getElem
   ·simp
   ·intro k h1 h2
    rw [List.getElem_set]
    split
    ·rename_i h; subst h; simp [List.getD, hi]
    ·rfl
  rw [this]
 ·have h1 := set_perm (us := us) (i := i) (us.getD j default) hi
  have h2 := set_perm (us := us.set i (us.getD j default)) (i := j) (us.getD i default) (by simpa using hj)
  have e2 : (us.set i (us.getD j default)).getD j default = us.getD j default := by
   simp [List.getD, e]
  rw [e2] at h2
  have h3 := h2.trans h1
  exact h3.cons_inv
abbrev par (k : Nat) : Nat := (k - 1) / 2
def isHp (us : List Int) (n : Nat) : Prop := ∀ k, 0 < k → k < n → us.getD (par k) default ≤ us.getD k default
structure HUp (us : List Int) (j : Nat) : Prop where
 a : ∀ k, 0 < k → k < us.length → k ≠ j → us.getD (par k) default ≤ us.getD k default
 b : ∀ k, 0 < k → k < us.length → par k = j → 0 < j → us.getD (par j) default ≤ us.getD k default
theorem HUp.done {us : List Int} {j : Nat} (h : HUp us j) (hj : j = 0 ∨ us.getD (par j) default ≤ us.getD j default) : isHp us us.length := fun k h0 h1 => by
 by_cases e : k = j
 ·subst e
  exact hj.resolve_left (by omega)
 ·exact h.a k h0 h1 e
theorem HUp.step {us : List Int} {j : Nat} (h : HUp us j) (h0 : 0 < j) (hj : j < us.length) (hlt : us.getD j default < us.getD (par j) default) : HUp (swp us (par j) j) (par j) := by
 have hp : par j < us.length := by unfold par; omega
 have hne : par j ≠ j := by unfold par; omega
 refine ⟨fun k k0 k1 k2 => ?_, fun k k0 k1 k2 k3 => ?_⟩
 ·rw [swp_len] at k1
  rw [swp_get hp hj, swp_get hp hj]
  by_cases e1 : k = j
  ·subst e1
   rw [if_neg hne, if_pos rfl, if_pos rfl]
   omega
  ·rw [if_neg e1, if_neg k2]
   have ha := h.a k k0 k1 e1
   by_cases e2 : par k = j
   ·rw [if_pos e2]
    exact h.b k k0 k1 e2 h0
   ·rw [if_neg e2]
    by_cases e3 : par k = par j
    ·rw [if_pos e3]
     rw [e3] at ha
     omega
    ·rw [if_neg e3]
     exact ha
 ·rw [swp_len] at k1
  have hpp : par (par j) ≠ j := by unfold par; omega
  have hpp2 : par (par j) ≠ par j := by unfold par at k3 ⊢; omega
  have h5 := h.a (par j) k3 hp hne
  rw [swp_get hp hj, swp_get hp hj, if_neg hpp, if_neg hpp2]
  by_cases e1 : k = j
  ·rw [if_pos e1]
   exact h5
  ·have h4 := h.a k k0 k1 e1
   have e2 : k ≠ par j := fun e => by rw [← e] at k2; unfold par at k2; omega
   rw [if_neg e1, if_neg e2]
   rw [k2] at h4
   omega
structure HDn (us : List Int) (n i : Nat) : Prop where
 a : ∀ k, 0 < k → k < n → par k ≠ i → us.getD (par k) default ≤ us.getD k default
 b : ∀ k, 0 < k → k < n → par k = i → 0 < i → us.getD (par i) default ≤ us.getD k default
theorem HDn.done {us : List Int} {n i : Nat} (h : HDn us n i) (hc : ∀ k, 0 < k → k < n → par k = i → us.getD i default ≤ us.getD k default) : isHp us n := fun k h0 h1 => by
 by_cases e : par k = i
 ·rw [e]; exact hc k h0 h1 e
 ·exact h.a k h0 h1 e
theorem HDn.step {us : List Int} {n i j : Nat} (h : HDn us n i) (hn : n ≤ us.length) (hj : j < n) (j0 : 0 < j) (hp : par j = i) (hmin : ∀ k, 0 < k → k < n → par k = i → us.getD j default ≤ us.getD k default) (hlt : us.getD j default < us.getD i default) : HDn (swp us i j) n j := by
 have hi : i < us.length := by rw [← hp]; unfold par; omega
 have hjl : j < us.length := by omega
 have hij : i ≠ j := by rw [← hp]; unfold par; omega
 refine ⟨fun k k0 k1 k2 => ?_, fun k k0 k1 k2 k3 => ?_⟩
 ·rw [swp_get hi hjl, swp_get hi hjl, if_neg k2]
  by_cases e1 : par k = i
  ·rw [if_pos e1]
   by_cases e2 : k = j
   ·rw [if_pos e2]; omega
   ·have e3 : k ≠ i := fun e => by rw [e] at e1; unfold par at e1; omega
    rw [if_neg e2, if_neg e3]
    exact hmin k k0 k1 e1
  ·rw [if_neg e1]
   have ha := h.a k k0 k1 e1
   by_cases e2 : k = j
   ·exact absurd (by rw [e2]; exact hp) e1
   ·rw [if_neg e2]
    by_cases e3 : k = i
    ·rw [if_pos e3]
     have := h.b j j0 hj hp (by omega)
     rw [e3]
     exact this
    ·rw [if_neg e3]
     exact ha
 ·have e2 : k ≠ j := fun e => by rw [e] at k2; unfold par at k2; omega
  have e3 : k ≠ i := fun e => by
   rw [e] at k2
   rw [← hp] at k2
   unfold par at k2
   omega
  rw [swp_get hi hjl, swp_get hi hjl, if_neg e2, if_neg e3, hp, if_neg hij, if_pos rfl]
  have := h.a k k0 k1 (by rw [k2]; exact Ne.symm hij)
  rw [k2] at this
  exact this
theorem hp_min {us : List Int} {n : Nat} (h : isHp us n) : ∀ k, k < n → us.getD 0 default ≤ us.getD k default := by
 intro k
 induction k using Nat.strongRecOn with
 | _ k ih =>
  intro hk
  by_cases h0 : k = 0
  ·rw [h0]; exact Int.le_refl _
  ·have h1 := h k (by omega) hk
   have h2 := ih (par k) (by unfold par; omega) (by unfold par; omega)
   omega
theorem hp_take {us : List Int} {n : Nat} (h : isHp us n) (hn : n ≤ us.length) : isHp (us.take n) (us.take n).length := fun k h0 h1 => by
 have hl : (us.take n).length = n := by rw [List.length_take]; omega
 rw [hl] at h1
 have := h k h0 h1
 have hp : par k < n := by unfold par; omega
 simp only [List.getD, List.getElem?_take, if_pos h1, if_pos hp] at this ⊢
 exact this
theorem HUp.push {us : List Int} {x : Int} (h : isHp us us.length) : HUp (us ++ [x]) us.length := by
 refine ⟨fun k h0 h1 h2 => ?_, fun k h0 h1 h2 h3 => ?_⟩
 ·rw [List.length_append, List.length_cons, List.length_nil] at h1
  have hk : k < us.length := by omega
  have hp : par k < us.length := by unfold par; omega
  have := h k h0 hk
  simp only [List.getD, List.getElem?_append_left hk, List.getElem?_append_left hp] at this ⊢
  exact this
 ·rw [List.length_append, List.length_cons, List.length_nil] at h1
  exfalso
  unfold par at h2
  omega
theorem HDn.pop {us : List Int} (h : isHp us us.length) (h0 : 0 < us.length) : HDn (swp us 0 (us.length - 1)) (us.length - 1) 0 := by
 refine ⟨fun k k0 k1 k2 => ?_, fun k _ _ _ h => by omega⟩
 have hp : par k < us.length - 1 := by unfold par; omega
 rw [swp_get (by omega) (by omega), swp_get (by omega) (by omega), if_neg (by omega), if_neg k2, if_neg (by omega), if_neg (by omega)]
 exact h k k0 (by omega)
theorem take_last {us : List Int} (h0 : 0 < us.length) : us.Perm (us.getD (us.length - 1) default :: us.take (us.length - 1)) := by
 have h1 : us.length - 1 < us.length := by omega
 have e : us = us.take (us.length - 1) ++ [us.getD (us.length - 1) default] := by
  have := List.take_succ_eq_append_getElem h1
  rw [show us.length - 1 + 1 = us.length by omega, List.take_length] at this
  rw [show us.getD (us.length - 1) default = us[us.length - 1] by simp [List.getD, h1]]
  exact this
 conv => lhs; rw [e]
 exact List.perm_append_singleton _ _
end Go.Wage
namespace Go.Wage
def plc (cs : List (List Lt)) (x : Lt) : List Nat := (List.range cs.length).filter fun i => (cs.getD i default).contains x
theorem plc_mem {cs : List (List Lt)} {x : Lt} {i : Nat} : i ∈ plc cs x ↔ i < cs.length ∧ x ∈ cs.getD i default := by
 unfold plc
 rw [List.mem_filter, List.mem_range, List.contains_iff_mem]
theorem plc_nodup (cs : List (List Lt)) (x : Lt) : (plc cs x).Nodup := List.nodup_range.filter _
theorem plc_len (cs : List (List Lt)) (x : Lt) : (plc cs x).length ≤ cs.length := by
 unfold plc
 exact Nat.le_trans (List.length_filter_le _ _) (by rw [List.length_range]; exact Nat.le_refl _)
theorem getD_at' {α : Type} [Inhabited α] {l : List α} {i : Nat} (h : i < l.length) : l.getD i default = l[i] := by simp [List.getD, h]
theorem getD_snoc_lt {α : Type} [Inhabited α] {l : List α} {a : α} {i : Nat} (h : i < l.length) : (l ++ [a]).getD i default = l.getD i default := by
 simp [List.getD, List.getElem?_append_left h]
theorem getD_snoc_eq {α : Type} [Inhabited α] {l : List α} {a : α} : (l ++ [a]).getD l.length default = a := by
 simp [List.getD]
theorem plc_snoc (cs : List (List Lt)) (c : List Lt) (x : Lt) : plc (cs ++ [c]) x = plc cs x ++ if c.contains x then [cs.length] else [] := by
 unfold plc
 rw [List.length_append, List.length_singleton, List.range_succ, List.filter_append, List.filter_cons, List.filter_nil, getD_snoc_eq]
 congr 1
 apply List.filter_congr
 intro i hi
 rw [getD_snoc_lt (List.mem_range.1 hi)]
def Fal (opn : List Int) (f : Int) : Prop := (f = -1 ∧ ∀ i, i < opn.length → opn.getD i default ≠ 0) ∨ (0 ≤ f ∧ f < opn.length ∧ opn.getD f.toNat default = 0 ∧ ∀ i, i < f.toNat → opn.getD i default ≠ 0)
def falE (f : Int) (n i : Int) : Int := if n = 0 ∧ (f < 0 ∨ i < f) then i else f
def uniE (us : List Int) (n i : Int) : List Int := if n = 1 then us ++ [i] else us
structure Inv (C : Nat → Prop) (opn : List Int) (f : Int) (us : List Int) : Prop where
 hp : isHp us us.length
 nd : us.Nodup
 rg : ∀ x ∈ us, 0 ≤ x ∧ x < opn.length ∧ opn.getD x.toNat default ≤ 1
 un : ∀ i, i < opn.length → opn.getD i default = 1 → C i ∨ (i : Int) ∈ us
 fal : Fal opn f
theorem nodupI_len {us : List Int} {n : Nat} (h : us.Nodup) (hr : ∀ x ∈ us, 0 ≤ x ∧ x < (n : Int)) : us.length ≤ n :=
 ints_len h (lo := 0) fun x hx => ⟨(hr x hx).1, by have := (hr x hx).2; omega⟩
theorem Inv.len {C : Nat → Prop} {opn us : List Int} {f : Int} (h : Inv C opn f us) : us.length ≤ opn.length := nodupI_len h.nd fun x hx => ⟨(h.rg x hx).1, (h.rg x hx).2.1⟩
theorem Inv.mono {C D : Nat → Prop} {opn us : List Int} {f : Int} (h : Inv C opn f us) (hc : ∀ i, i < opn.length → opn.getD i default = 1 → C i → D i) : Inv D opn f us :=
 ⟨h.hp, h.nd, h.rg, fun i h1 h2 => (h.un i h1 h2).imp_left (hc i h1 h2), h.fal⟩
theorem uniE_mem {us : List Int} {n i x : Int} : x ∈ uniE us n i ↔ x ∈ us ∨ (n = 1 ∧ x = i) := by
 unfold uniE
 split
 ·rename_i h
  rw [List.mem_append, List.mem_singleton]
  simp [h]
 ·rename_i h
  simp [h]
theorem uniE_nodup {us : List Int} {n i : Int} (h : us.Nodup) (hi : n = 1 → i ∉ us) : (uniE us n i).Nodup := by
 unfold uniE
 split
 ·rename_i h1
  rw [List.nodup_append]
  exact ⟨h, by simp, fun a ha b hb => by rw [List.mem_singleton] at hb; subst hb; exact fun e => hi h1 (by rw [← e]; exact ha)⟩
 ·exact h
theorem set_getD {l : List Int} {i k : Nat} {v : Int} (hi : i < l.length) : (l.set i v).getD k default = if k = i then v else l.getD k default := by
 simp only [List.getD, List.getElem?_set]
 by_cases e : i = k
 ·subst e; simp [hi]
 ·rw [if_neg e, if_neg (Ne.symm e)]
theorem Inv.dec {C : Nat → Prop} {opn us us' : List Int} {f : Int} {i : Nat} (h : Inv C opn f us) (hi : i < opn.length) (h1 : 1 ≤ opn.getD i default) (hp : us'.Perm (uniE us (opn.getD i default - 1) i)) (hh : isHp us' us'.length) :
  Inv C (opn.set i (opn.getD i default - 1)) (falE f (opn.getD i default - 1) i) us' := by
 have hs := fun k => set_getD (l := opn) (i := i) (k := k) (v := opn.getD i default - 1) hi
 have hl : (opn.set i (opn.getD i default - 1)).length = opn.length := by simp
 refine ⟨hh, ?_, fun x hx => ?_, fun k h2 h3 => ?_, ?_⟩
 ·rw [hp.nodup_iff]
  refine uniE_nodup h.nd fun h2 hm => ?_
  have := (h.rg _ hm).2.2
  rw [Int.toNat_natCast] at this
  omega
 ·rw [hl, hs]
  rcases uniE_mem.1 (hp.mem_iff.1 hx) with hx | ⟨h2, rfl⟩
  ·have := h.rg x hx
   refine ⟨this.1, this.2.1, ?_⟩
   split
   ·rename_i e; rw [← e] at h1; rw [← e]; omega
   ·exact this.2.2
  ·rw [Int.toNat_natCast, if_pos rfl]
   omega
 ·rw [hl] at h2
  rw [hs] at h3
  by_cases e : k = i
  ·subst e
   rw [if_pos rfl] at h3
   exact .inr (hp.mem_iff.2 (uniE_mem.2 (.inr ⟨h3, rfl⟩)))
  ·rw [if_neg e] at h3
   exact (h.un k h2 h3).imp_right fun hm => hp.mem_iff.2 (uniE_mem.2 (.inl hm))
 ·unfold Fal
  rw [hl]
  simp only [hs]
  unfold falE
  rcases h.fal with ⟨h2, h3⟩ | ⟨h2, h3, h4, h5⟩
  ·by_cases e : opn.getD i default - 1 = 0
   ·rw [if_pos ⟨e, by omega⟩]
    refine .inr ⟨by omega, by omega, ?_, fun k hk => ?_⟩
    ·rw [Int.toNat_natCast, if_pos rfl, e]
    ·rw [if_neg (by omega)]
     exact h3 k (by omega)
   ·rw [if_neg fun hh => e hh.1]
    refine .inl ⟨h2, fun k hk => ?_⟩
    split
    ·exact e
    ·exact h3 k hk
  ·have hfi : f.toNat ≠ i := fun e' => by rw [e'] at h4; omega
   by_cases e : opn.getD i default - 1 = 0 ∧ (f < 0 ∨ (i : Int) < f)
   ·rw [if_pos e]
    refine .inr ⟨by omega, by omega, ?_, fun k hk => ?_⟩
    ·rw [Int.toNat_natCast, if_pos rfl, e.1]
    ·rw [if_neg (by omega)]
     exact h5 k (by omega)
   ·rw [if_neg e]
    refine .inr ⟨h2, h3, by rw [if_neg hfi]; exact h4, fun k hk => ?_⟩
    split
    ·rename_i e2
     intro e3
     exact e ⟨e3, by omega⟩
    ·exact h5 k hk
theorem Inv.nil {C : Nat → Prop} : Inv C [] (-1) [] := ⟨fun _ _ h => by simp at h, by simp, fun _ h => by simp at h, fun _ h => by simp at h, .inl ⟨rfl, fun _ h => by simp at h⟩⟩
theorem Inv.snoc {C : Nat → Prop} {opn us us' : List Int} {f v : Int} (h : Inv C opn f us) (hp : us'.Perm (uniE us v opn.length)) (hh : isHp us' us'.length) : Inv C (opn ++ [v]) (falE f v opn.length) us' := by
 have hl : (opn ++ [v]).length = opn.length + 1 := by simp
 have hg : ∀ k, k < opn.length → (opn ++ [v]).getD k default = opn.getD k default := fun k hk => getD_snoc_lt hk
 have he : (opn ++ [v]).getD opn.length default = v := getD_snoc_eq
 refine ⟨hh, ?_, fun x hx => ?_, fun k h2 h3 => ?_, ?_⟩
 ·rw [hp.nodup_iff]
  refine uniE_nodup h.nd fun h2 hm => ?_
  have := (h.rg _ hm).2.1
  omega
 ·rw [hl]
  rcases uniE_mem.1 (hp.mem_iff.1 hx) with hx | ⟨h2, rfl⟩
  ·have := h.rg x hx
   rw [hg _ (by omega)]
   exact ⟨this.1, by omega, this.2.2⟩
  ·rw [Int.toNat_natCast, he]
   omega
 ·rw [hl] at h2
  by_cases e : k = opn.length
  ·subst e
   rw [he] at h3
   exact .inr (hp.mem_iff.2 (uniE_mem.2 (.inr ⟨h3, rfl⟩)))
  ·rw [hg k (by omega)] at h3
   exact (h.un k (by omega) h3).imp_right fun hm => hp.mem_iff.2 (uniE_mem.2 (.inl hm))
 ·unfold Fal falE
  rw [hl]
  rcases h.fal with ⟨h2, h3⟩ | ⟨h2, h3, h4, h5⟩
  ·by_cases e : v = 0
   ·rw [if_pos ⟨e, by omega⟩]
    refine .inr ⟨by omega, by omega, ?_, fun k hk => ?_⟩
    ·rw [Int.toNat_natCast, he, e]
    ·rw [hg k (by omega)]
     exact h3 k (by omega)
   ·rw [if_neg fun hh => e hh.1]
    refine .inl ⟨h2, fun k hk => ?_⟩
    by_cases e2 : k = opn.length
    ·subst e2; rw [he]; exact e
    ·rw [hg k (by omega)]; exact h3 k (by omega)
  ·rw [if_neg (by omega)]
   refine .inr ⟨h2, by omega, ?_, fun k hk => ?_⟩
   ·rw [hg _ (by omega)]; exact h4
   ·rw [hg _ (by omega)]; exact h5 k hk
def opnS (cs : List (List Lt)) (out : List Lt) : List Int := cs.map fun c => ((opnL out c).length : Int)
def satS (cs : List (List Lt)) (out : List Lt) : List Bool := cs.map (satL out)
theorem opnS_len (cs : List (List Lt)) (out : List Lt) : (opnS cs out).length = cs.length := by simp [opnS]
theorem satS_len (cs : List (List Lt)) (out : List Lt) : (satS cs out).length = cs.length := by simp [satS]
theorem opnS_get {cs : List (List Lt)} {out : List Lt} {i : Nat} (h : i < cs.length) : (opnS cs out).getD i default = ((opnL out (cs.getD i default)).length : Int) := by
 simp [opnS, List.getD, h]
theorem satS_get {cs : List (List Lt)} {out : List Lt} {i : Nat} (h : i < cs.length) : (satS cs out).getD i default = satL out (cs.getD i default) := by
 simp [satS, List.getD, h]
theorem opnS_dup {cs : List (List Lt)} {out : List Lt} {x : Lt} (h : x ∈ out) : opnS cs (out ++ [x]) = opnS cs out := by
 unfold opnS
 simp only [opn_dup h]
theorem satS_dup {cs : List (List Lt)} {out : List Lt} {x : Lt} (h : x ∈ out) : satS cs (out ++ [x]) = satS cs out := by
 unfold satS
 exact List.map_congr_left fun c _ => sat_dup h
def setS (sat : List Bool) (js : List Nat) : List Bool := js.foldl (fun s j => s.set j true) sat
theorem setS_snoc (sat : List Bool) (js : List Nat) (j : Nat) : setS sat (js ++ [j]) = (setS sat js).set j true := by simp [setS]
theorem setS_len (sat : List Bool) (js : List Nat) : (setS sat js).length = sat.length := by
 unfold setS
 induction js generalizing sat with
 | nil => rfl
 | cons j js ih => rw [List.foldl_cons, ih, List.length_set]
theorem setS_get (sat : List Bool) (js : List Nat) {i : Nat} (hi : i < sat.length) : (setS sat js).getD i default = (sat.getD i default || js.contains i) := by
 unfold setS
 induction js generalizing sat with
 | nil => simp
 | cons j js ih =>
  rw [List.foldl_cons, ih _ (by simpa using hi)]
  by_cases e : j = i
  ·subst e
   simp [List.getD, hi]
  ·have : (sat.set j true).getD i default = sat.getD i default := by simp [List.getD, e]
   rw [this, List.contains_cons]
   have : (i == j) = false := by simpa using Ne.symm e
   rw [this, Bool.false_or]
theorem list_ext {α : Type} [Inhabited α] {a b : List α} (hl : a.length = b.length) (h : ∀ i, i < a.length → a.getD i default = b.getD i default) : a = b := by
 apply List.ext_getElem hl
 intro i h1 h2
 have := h i h1
 simpa [List.getD, h1, h2] using this
theorem setS_all (cs : List (List Lt)) (out : List Lt) (x : Lt) : setS (satS cs out) (plc cs x) = satS cs (out ++ [x]) := by
 refine list_ext (by rw [setS_len, satS_len, satS_len]) fun i hi => ?_
 rw [setS_len, satS_len] at hi
 rw [setS_get _ _ (by rw [satS_len]; exact hi), satS_get hi, satS_get hi, sat_snoc]
 congr 1
 rw [Bool.eq_iff_iff, List.contains_iff_mem, List.contains_iff_mem, plc_mem]
 exact ⟨fun h => h.2, fun h => ⟨hi, h⟩⟩
def decS (opn : List Int) (js : List Nat) : List Int := js.foldl (fun o j => o.set j (o.getD j default - 1)) opn
theorem decS_snoc (opn : List Int) (js : List Nat) (j : Nat) : decS opn (js ++ [j]) = (decS opn js).set j ((decS opn js).getD j default - 1) := by simp [decS]
theorem decS_len (opn : List Int) (js : List Nat) : (decS opn js).length = opn.length := by
 unfold decS
 induction js generalizing opn with
 | nil => rfl
 | cons j js ih => rw [List.foldl_cons, ih, List.length_set]
theorem decS_get {js : List Nat} : ∀ {opn : List Int} {i : Nat}, js.Nodup → i < opn.length → (decS opn js).getD i default = opn.getD i default - if i ∈ js then 1 else 0 := by
 unfold decS
 induction js with
 | nil => intro opn i _ _; simp
 | cons j js ih =>
  intro opn i hn hi
  rw [List.nodup_cons] at hn
  rw [List.foldl_cons, ih hn.2 (by simpa using hi)]
  by_cases hj : j < opn.length
  ·rw [set_getD hj]
   by_cases e : i = j
   ·subst e
    rw [if_pos rfl, if_neg hn.1, if_pos (by simp)]
    omega
   ·rw [if_neg e]
    simp [e]
  ·have e : i ≠ j := by omega
   rw [List.set_eq_of_length_le (by omega)]
   simp [e]
theorem decS_all {cs : List (List Lt)} {out : List Lt} {x : Lt} (hx : x ∉ out) : decS (opnS cs out) (plc cs (negL x)) = opnS cs (out ++ [x]) := by
 refine list_ext (by rw [decS_len, opnS_len, opnS_len]) fun i hi => ?_
 rw [decS_len, opnS_len] at hi
 rw [decS_get (plc_nodup _ _) (by rw [opnS_len]; exact hi), opnS_get hi, opnS_get hi, opn_snoc hx]
 simp only [plc_mem, hi, true_and]
 by_cases e : negL x ∈ cs.getD i default
 ·rw [if_pos e, if_pos e]
  have : negL x ∈ opnL out (cs.getD i default) := opn_mem.2 ⟨e, by rw [negL_negL]; exact hx⟩
  have := List.length_pos_of_mem this
  omega
 ·rw [if_neg e, if_neg e]
  omega
theorem dec_pos {cs : List (List Lt)} {out : List Lt} {x : Lt} (hx : x ∉ out) {k : Nat} (hk : k < (plc cs (negL x)).length) :
  (plc cs (negL x)).getD k default < cs.length ∧ 1 ≤ (decS (opnS cs out) ((plc cs (negL x)).take k)).getD ((plc cs (negL x)).getD k default) default := by
 have hm : (plc cs (negL x)).getD k default ∈ plc cs (negL x) := by simp [List.getD, hk]
 have hm2 := plc_mem.1 hm
 refine ⟨hm2.1, ?_⟩
 have hn := plc_nodup cs (negL x)
 have ht : ((plc cs (negL x)).take k).Nodup := hn.sublist (List.take_sublist _ _)
 rw [decS_get ht (by rw [opnS_len]; exact hm2.1), opnS_get hm2.1, if_neg]
 ·have : negL x ∈ opnL out (cs.getD ((plc cs (negL x)).getD k default) default) := opn_mem.2 ⟨hm2.2, by rw [negL_negL]; exact hx⟩
  have := List.length_pos_of_mem this
  omega
 ·intro h
  obtain ⟨j, hj, e⟩ := List.mem_iff_getElem.1 h
  rw [List.length_take] at hj
  rw [List.getElem_take] at e
  have e2 : (plc cs (negL x)).getD k default = (plc cs (negL x))[k] := by simp [List.getD, hk]
  rw [e2] at e
  have := (List.getElem_inj hn).1 e
  omega
structure PS (cs : List (List Lt)) (out : List Lt) (E : Nat → Prop) (f : Int) (us : List Int) : Prop where
 i : Inv (fun i => satL out (cs.getD i default) = true ∨ E i) (opnS cs out) f us
theorem PS.fal {cs : List (List Lt)} {out : List Lt} {E : Nat → Prop} {f : Int} {us : List Int} (h : PS cs out E f us) : cs.findIdx? (falC out) = if 0 ≤ f then some f.toNat else none := by
 have hf : ∀ i, i < cs.length → (falC out (cs.getD i default) = true ↔ (opnS cs out).getD i default = 0) := fun i hi => by
  rw [opnS_get hi]
  unfold falC
  rw [decide_eq_true_eq]
  constructor
  ·intro e; rw [e]; rfl
  ·intro e
   exact List.length_eq_zero_iff.1 (by omega)
 rcases h.i.fal with ⟨h1, h2⟩ | ⟨h1, h2, h3, h4⟩
 ·rw [if_neg (by omega), List.findIdx?_eq_none_iff]
  intro c hc
  obtain ⟨i, hi, rfl⟩ := List.mem_iff_getElem.1 hc
  have := h2 i (by rw [opnS_len]; exact hi)
  have e := hf i hi
  simp only [List.getD, List.getElem?_eq_getElem hi, Option.getD_some] at e
  simp only [List.getD] at this
  rw [Bool.eq_false_iff]
  exact fun h5 => this (e.1 h5)
 ·rw [opnS_len] at h2
  rw [if_pos h1, List.findIdx?_eq_some_iff_getElem]
  have hi : f.toNat < cs.length := by omega
  refine ⟨hi, ?_, fun j hj => ?_⟩
  ·have := (hf _ hi).2 h3
   simpa [List.getD, hi] using this
  ·have hjl : j < cs.length := by omega
   have := h4 j hj
   have e := hf j hjl
   simp only [List.getD, List.getElem?_eq_getElem hjl, Option.getD_some] at e
   simp only [List.getD] at this
   exact fun h5 => this (e.1 h5)
theorem uniC_iff {out c : List Lt} : uniC out c = true ↔ (opnL out c).length = 1 ∧ satL out c = false := by
 unfold uniC
 rw [Bool.and_eq_true, decide_eq_true_eq, Bool.not_eq_true']
theorem PS.pop {cs : List (List Lt)} {out : List Lt} {E : Nat → Prop} {f : Int} {us us' : List Int} (h : PS cs out E f us) (hp : (us.getD 0 default :: us').Perm us) (hh : isHp us' us'.length) :
  PS cs out (fun i => E i ∨ (i : Int) = us.getD 0 default) f us' := by
 refine ⟨⟨hh, ?_, fun x hx => h.i.rg x (hp.mem_iff.1 (List.mem_cons_of_mem _ hx)), fun i h1 h2 => ?_, h.i.fal⟩⟩
 ·have := hp.nodup_iff.2 h.i.nd
  exact (List.nodup_cons.1 this).2
 ·rcases h.i.un i h1 h2 with (hs | he) | hm
  ·exact .inl (.inl hs)
  ·exact .inl (.inr (.inl he))
  ·rcases List.mem_cons.1 (hp.mem_iff.2 hm) with e | hm
   ·exact .inl (.inr (.inr e))
   ·exact .inr hm
theorem PS.mono {cs : List (List Lt)} {out : List Lt} {E D : Nat → Prop} {f : Int} {us : List Int} (h : PS cs out E f us) (hc : ∀ i, i < cs.length → E i → satL out (cs.getD i default) = true ∨ D i) : PS cs out D f us :=
 ⟨h.i.mono fun i h1 _ h3 => h3.elim .inl fun he => hc i (by rw [opnS_len] at h1; exact h1) he⟩
theorem PS.rng {cs : List (List Lt)} {out : List Lt} {E : Nat → Prop} {f : Int} {us : List Int} (h : PS cs out E f us) (h0 : 0 < us.length) : 0 ≤ us.getD 0 default ∧ us.getD 0 default < cs.length := by
 have hm : us.getD 0 default ∈ us := by simp [List.getD, h0]
 have := h.i.rg _ hm
 rw [opnS_len] at this
 exact ⟨this.1, this.2.1⟩
theorem PS.unit {cs : List (List Lt)} {out : List Lt} {f : Int} {us : List Int} (h : PS cs out (fun _ => False) f us) (hf : f < 0) (h0 : 0 < us.length) (hs : satL out (cs.getD (us.getD 0 default).toNat default) = false) :
  cs.findIdx? (uniC out) = some (us.getD 0 default).toNat ∧ (opnL out (cs.getD (us.getD 0 default).toNat default)).length = 1 := by
 have hm : us.getD 0 default ∈ us := by simp [List.getD, h0]
 have hr := h.i.rg _ hm
 rw [opnS_len] at hr
 have hi : (us.getD 0 default).toNat < cs.length := by omega
 rw [opnS_get hi] at hr
 have hnz := h.i.fal
 rcases hnz with ⟨_, hnz⟩ | ⟨h1, _⟩
 ·have h1 := hnz _ (by rw [opnS_len]; exact hi)
  rw [opnS_get hi] at h1
  have ho : (opnL out (cs.getD (us.getD 0 default).toNat default)).length = 1 := by omega
  refine ⟨?_, ho⟩
  rw [List.findIdx?_eq_some_iff_getElem]
  refine ⟨hi, ?_, fun j hj => ?_⟩
  ·have := uniC_iff.2 ⟨ho, hs⟩
   rw [getD_at' hi] at this
   exact this
  ·have hjl : j < cs.length := by omega
   intro hu
   have hu2 : uniC out (cs.getD j default) = true := by simpa [List.getD, hjl] using hu
   obtain ⟨h2, h3⟩ := uniC_iff.1 hu2
   have h4 := h.i.un j (by rw [opnS_len]; exact hjl) (by rw [opnS_get hjl]; omega)
   rcases h4 with (h4 | h4) | h4
   ·rw [h3] at h4; cases h4
   ·exact h4
   ·obtain ⟨q, hq, e⟩ := List.mem_iff_getElem.1 h4
    have := hp_min h.i.hp q hq
    have e2 : us.getD q default = us[q] := by simp [List.getD, hq]
    rw [e2, e] at this
    omega
 ·omega
theorem PS.none {cs : List (List Lt)} {out : List Lt} {f : Int} (h : PS cs out (fun _ => False) f []) : cs.findIdx? (uniC out) = none := by
 rw [List.findIdx?_eq_none_iff]
 intro c hc
 obtain ⟨i, hi, rfl⟩ := List.mem_iff_getElem.1 hc
 rw [Bool.eq_false_iff]
 intro hu
 have hu2 : uniC out (cs.getD i default) = true := by simpa [List.getD, hi] using hu
 obtain ⟨h2, h3⟩ := uniC_iff.1 hu2
 rcases h.i.un i (by rw [opnS_len]; exact hi) (by rw [opnS_get hi]; omega) with (h4 | h4) | h4
 ·rw [h3] at h4; cases h4
 ·exact h4
 ·cases h4
theorem PS.dup {cs : List (List Lt)} {out : List Lt} {x : Lt} {f : Int} {us : List Int} (h : PS cs out (fun i => x ∈ cs.getD i default) f us) (hx : x ∈ out) : PS cs (out ++ [x]) (fun _ => False) f us := by
 refine ⟨?_⟩
 rw [opnS_dup hx]
 refine h.i.mono fun i _ _ h3 => .inl ?_
 rw [sat_dup hx]
 exact h3.elim id fun hm => sat_iff.2 ⟨x, hm, hx⟩
structure PK (cs : List (List Lt)) (out : List Lt) (x : Lt) (k : Nat) (f : Int) (us : List Int) : Prop where
 i : Inv (fun i => satL (out ++ [x]) (cs.getD i default) = true) (decS (opnS cs out) ((plc cs (negL x)).take k)) f us
theorem PK.zero {cs : List (List Lt)} {out : List Lt} {x : Lt} {f : Int} {us : List Int} (h : PS cs out (fun i => x ∈ cs.getD i default) f us) : PK cs out x 0 f us := by
 refine ⟨h.i.mono fun i _ _ h3 => ?_⟩
 rw [sat_snoc, Bool.or_eq_true, List.contains_iff_mem]
 exact h3
theorem take_snocD {l : List Nat} {k : Nat} (h : k < l.length) : l.take (k + 1) = l.take k ++ [l.getD k default] := by
 rw [List.take_succ_eq_append_getElem h]
 simp [List.getD, h]
theorem PK.step {cs : List (List Lt)} {out : List Lt} {x : Lt} {k : Nat} {f : Int} {us us' : List Int} (h : PK cs out x k f us) (hx : x ∉ out) (hk : k < (plc cs (negL x)).length) {n : Int} (hn : n = (decS (opnS cs out) ((plc cs (negL x)).take k)).getD ((plc cs (negL x)).getD k default) default - 1)
  (hp : us'.Perm (uniE us n ((plc cs (negL x)).getD k default : Nat))) (hh : isHp us' us'.length) : PK cs out x (k + 1) (falE f n ((plc cs (negL x)).getD k default : Nat)) us' := by
 have h1 := dec_pos hx hk
 refine ⟨?_⟩
 rw [take_snocD hk, decS_snoc, hn]
 rw [hn] at hp
 exact h.i.dec (by rw [decS_len, opnS_len]; exact h1.1) h1.2 hp hh
theorem PK.done {cs : List (List Lt)} {out : List Lt} {x : Lt} {f : Int} {us : List Int} (h : PK cs out x (plc cs (negL x)).length f us) (hx : x ∉ out) : PS cs (out ++ [x]) (fun _ => False) f us := by
 refine ⟨?_⟩
 have := h.i
 rw [List.take_length, decS_all hx] at this
 exact this.mono fun i _ _ h3 => .inl h3
theorem litC_at {out c : List Lt} {k : Nat} (hk : k < (ddL c).length) (ho : (opnL out c).length = 1) (hn : negL ((ddL c).getD k default) ∉ out) : litC out c = (ddL c).getD k default := by
 unfold litC
 have hm : (ddL c).getD k default ∈ opnL out c := by
  rw [opn_mem]
  refine ⟨?_, hn⟩
  rw [← ddL_mem]
  simp [List.getD, hk]
 obtain ⟨y, hy⟩ := List.length_eq_one_iff.1 ho
 rw [hy] at hm ⊢
 rw [List.mem_singleton] at hm
 rw [hm]
 rfl
theorem lit_some {out c : List Lt} (ho : (opnL out c).length = 1) : ¬ ∀ j, j < (ddL c).length → negL ((ddL c).getD j default) ∈ out := fun h => by
 obtain ⟨y, hy⟩ := List.length_eq_one_iff.1 ho
 have hm : y ∈ opnL out c := by rw [hy]; simp
 rw [opn_mem, ← ddL_mem] at hm
 obtain ⟨j, hj, e⟩ := List.mem_iff_getElem.1 hm.1
 have := h j hj
 rw [show (ddL c).getD j default = y by simp [List.getD, hj, e]] at this
 exact hm.2 this
end Go.Wage
namespace Go.Wage
open Go.E2
section
variable {α β : Type} [DecidableEq α]
def lkG (x : α) : List (α × β) → List (α × β)
 | [] => []
 | e :: l => if e.1 = x then l else e :: lkG x l
theorem lkG_sub (x : α) : ∀ l : List (α × β), (lkG x l).Sublist l
 | [] => .slnil
 | e :: l => by
  rw [lkG]
  split
  ·exact List.sublist_cons_self _ _
  ·exact (lkG_sub x l).cons_cons _
theorem lkG_spec {x : α} : ∀ {l : List (α × β)}, (l.map (·.1)).Nodup → ((lkG x l).map (·.1)).Nodup ∧ ∀ y, lk y (lkG x l) = if y = x then none else lk y l
 | [], _ => ⟨by simp [lkG], fun y => by simp [lkG, lk]⟩
 | e :: l, h => by
  rw [List.map_cons, List.nodup_cons] at h
  obtain ⟨i1, i2⟩ := lkG_spec (x := x) h.2
  rw [lkG]
  by_cases he : e.1 = x
  ·rw [if_pos he]
   refine ⟨h.2, fun y => ?_⟩
   by_cases hy : y = x
   ·rw [if_pos hy, hy, ← he]
    cases hk : lk e.1 l with
    | none => rfl
    | some b => exact absurd (lk_key.2 (by rw [hk]; rfl)) h.1
   ·rw [if_neg hy, lk, if_neg (by rw [he]; exact hy)]
  ·rw [if_neg he]
   refine ⟨?_, fun y => ?_⟩
   ·rw [List.map_cons, List.nodup_cons]
    exact ⟨fun hm => h.1 (((lkG_sub x l).map _).subset hm), i1⟩
   ·rw [lk, i2]
    by_cases hy : y = e.1
    ·rw [if_pos hy, if_neg (by rw [hy]; exact he), lk, if_pos hy]
    ·rw [if_neg hy, lk, if_neg hy]
theorem lkG_perm {x : α} {b : β} : ∀ {l : List (α × β)}, lk x l = some b → l.Perm ((x, b) :: lkG x l)
 | [], h => by cases h
 | e :: l, h => by
  rw [lk] at h
  by_cases he : x = e.1
  ·rw [if_pos he] at h
   injection h with h
   subst h
   rw [lkG, if_pos he.symm, he]
  ·rw [if_neg he] at h
   rw [lkG, if_neg fun e' => he e'.symm]
   exact ((lkG_perm h).cons _).trans (.swap _ _ _)
theorem lkG_none {x : α} : ∀ {l : List (α × β)}, lk x l = none → lkG x l = l
 | [], _ => rfl
 | e :: l, h => by
  rw [lk] at h
  by_cases he : x = e.1
  ·rw [if_pos he] at h; cases h
  ·rw [if_neg he] at h
   rw [lkG, if_neg fun e' => he e'.symm, lkG_none h]
theorem lk_memG {x : α} {b : β} : ∀ {l : List (α × β)}, (l.map (·.1)).Nodup → (x, b) ∈ l → lk x l = some b
 | [], _, h => by cases h
 | e :: l, hn, h => by
  rw [List.map_cons, List.nodup_cons] at hn
  rw [lk]
  rcases List.mem_cons.1 h with rfl | h
  ·rw [if_pos rfl]
  ·rw [if_neg (fun e' => hn.1 (by rw [← e']; exact List.mem_map.2 ⟨_, h, rfl⟩)), lk_memG hn.2 h]
theorem mem_lkG {x : α} {b : β} : ∀ {l : List (α × β)}, lk x l = some b → (x, b) ∈ l
 | [], h => by cases h
 | e :: l, h => by
  rw [lk] at h
  split at h
  ·rename_i he
   injection h with h
   subst h; subst he
   simp
  ·exact List.mem_cons_of_mem _ (mem_lkG h)
theorem lk_mapG {γ : Type} (f : α → β → γ) (x : α) : ∀ l : List (α × β), lk x (l.map fun e => (e.1, f e.1 e.2)) = (lk x l).map (f x)
 | [] => rfl
 | e :: l => by
  rw [List.map_cons, lk, lk, lk_mapG f x l]
  split
  ·rename_i h; rw [h]; rfl
  ·rfl
end
structure LnkL {V : Type} (D : List (Lt × V)) (RS : List (Lt × V × List Nat)) (pl : Lt → List Nat) : Prop where
 nd : (D.map (·.1)).Nodup
 nr : (RS.map (·.1)).Nodup
 eq : ∀ x, lk x D = (lk x RS).map (·.1)
 dt : ∀ x, (lk x RS).map (·.2) = if pl x = [] then none else some (pl x)
section
variable {V : Type} {D : List (Lt × V)} {RS : List (Lt × V × List Nat)} {pl : Lt → List Nat}
theorem LnkL.nil : LnkL (V := V) [] [] (plc []) := ⟨by simp, by simp, fun _ => rfl, fun _ => rfl⟩
theorem LnkL.congr {pl' : Lt → List Nat} (h : LnkL D RS pl) (e : ∀ y, pl y = pl' y) : LnkL D RS pl' := ⟨h.nd, h.nr, h.eq, fun x => by rw [← e]; exact h.dt x⟩
theorem LnkL.getD {z : V} (h : LnkL D RS pl) {x : Lt} {v : V} {l : List Nat} (e : (lk x RS).getD (z, []) = (v, l)) : (lk x D).getD z = v ∧ l = pl x := by
 rw [h.eq x]
 have hd := h.dt x
 cases hk : lk x RS with
 | none =>
  rw [hk, Option.getD_none] at e
  rw [hk, Option.map_none] at hd
  injection e with e1 e2
  subst e1
  subst e2
  refine ⟨rfl, ?_⟩
  split at hd
  ·rename_i h2; exact h2.symm
  ·cases hd
 | some b =>
  rw [hk, Option.getD_some] at e
  rw [hk, Option.map_some] at hd
  subst e
  refine ⟨rfl, ?_⟩
  split at hd
  ·cases hd
  ·injection hd
theorem LnkL.put (h : LnkL D RS pl) (x : Lt) (v : V) (d : Nat) : LnkL (ups x v D) ((x, v, pl x ++ [d]) :: lkG x RS) (fun y => if y = x then pl x ++ [d] else pl y) := by
 obtain ⟨h1, h2⟩ := lkG_spec (x := x) h.nr
 refine ⟨ups_nodup h.nd, ?_, fun y => ?_, fun y => ?_⟩
 ·rw [List.map_cons, List.nodup_cons]
  refine ⟨fun hm => ?_, h1⟩
  have := lk_key.1 hm
  rw [h2 x, if_pos rfl] at this
  cases this
 ·rw [lk_ups, lk, h2 y, h.eq y]
  by_cases e : y = x
  ·rw [if_pos e, if_pos e]; rfl
  ·rw [if_neg e, if_neg e, if_neg e]
 ·rw [lk, h2 y]
  by_cases e : y = x
  ·rw [if_pos e, if_pos e, if_neg (by simp)]
   rfl
  ·rw [if_neg e, if_neg e, if_neg e]
   exact h.dt y
theorem LnkL.pick {z : V} (h : LnkL D RS pl) {x : Lt} {v : V} {l : List Nat} (e : (lk x RS).getD (z, []) = (v, l)) (h0 : l ≠ []) : LnkL D ((x, v, l) :: lkG x RS) pl := by
 obtain ⟨h1, h2⟩ := lkG_spec (x := x) h.nr
 have hs : lk x RS = some (v, l) := by
  cases hk : lk x RS with
  | none =>
   rw [hk, Option.getD_none] at e
   injection e with _ e
   exact absurd e.symm h0
  | some b => rw [hk, Option.getD_some] at e; rw [e]
 have hk : ∀ y, lk y ((x, v, l) :: lkG x RS) = lk y RS := fun y => by
  rw [lk, h2 y]
  by_cases e : y = x
  ·rw [if_pos e, e, hs]
  ·rw [if_neg e, if_neg e]
 refine ⟨h.nd, ?_, fun y => by rw [hk]; exact h.eq y, fun y => by rw [hk]; exact h.dt y⟩
 rw [List.map_cons, List.nodup_cons]
 refine ⟨fun hm => ?_, h1⟩
 have := lk_key.1 hm
 rw [h2 x, if_pos rfl] at this
 cases this
end
def plp (cs : List (List Lt)) (i k : Nat) (y : Lt) : List Nat := plc (cs.take i ++ [(cs.getD i default).take k]) y
theorem take_len {cs : List (List Lt)} {i : Nat} (hi : i < cs.length) : (cs.take i).length = i := by rw [List.length_take]; omega
theorem plp_eq {cs : List (List Lt)} {i : Nat} (hi : i < cs.length) (k : Nat) (y : Lt) : plp cs i k y = plc (cs.take i) y ++ if ((cs.getD i default).take k).contains y then [i] else [] := by
 unfold plp
 rw [plc_snoc, take_len hi]
theorem plp_zero {cs : List (List Lt)} {i : Nat} (hi : i < cs.length) (y : Lt) : plp cs i 0 y = plc (cs.take i) y := by
 rw [plp_eq hi, List.take_zero]
 simp
theorem plp_end {cs : List (List Lt)} {i : Nat} (hi : i < cs.length) (y : Lt) : plp cs i (cs.getD i default).length y = plc (cs.take (i + 1)) y := by
 unfold plp
 rw [List.take_length, List.take_succ_eq_append_getElem hi, getD_at' hi]
theorem take_snocL {l : List Lt} {k : Nat} (h : k < l.length) : l.take (k + 1) = l.take k ++ [l.getD k default] := by
 rw [List.take_succ_eq_append_getElem h, getD_at' h]
theorem plp_same {cs : List (List Lt)} {i k : Nat} (hi : i < cs.length) (hk : k < (cs.getD i default).length) (hm : (cs.getD i default).getD k default ∈ (cs.getD i default).take k) (y : Lt) : plp cs i k y = plp cs i (k + 1) y := by
 rw [plp_eq hi, plp_eq hi, take_snocL hk]
 congr 2
 rw [eq_iff_iff, List.contains_iff_mem, List.contains_iff_mem, List.mem_append, List.mem_singleton]
 exact ⟨.inl, fun h => h.elim id fun e => by rw [e]; exact hm⟩
theorem plp_new {cs : List (List Lt)} {i k : Nat} (hi : i < cs.length) (hk : k < (cs.getD i default).length) (hm : (cs.getD i default).getD k default ∉ (cs.getD i default).take k) (y : Lt) :
  (if y = (cs.getD i default).getD k default then plp cs i k ((cs.getD i default).getD k default) ++ [i] else plp cs i k y) = plp cs i (k + 1) y := by
 rw [plp_eq hi, plp_eq hi, plp_eq hi, take_snocL hk]
 by_cases e : y = (cs.getD i default).getD k default
 ·rw [if_pos e, e, if_neg (by rw [List.contains_iff_mem]; exact hm), List.append_nil, if_pos (by simp)]
 ·rw [if_neg e]
  congr 2
  rw [eq_iff_iff, List.contains_iff_mem, List.contains_iff_mem, List.mem_append, List.mem_singleton]
  exact ⟨.inl, fun h => h.resolve_right e⟩
theorem plp_pos {cs : List (List Lt)} {i k : Nat} {y : Lt} (hi : i < cs.length) (hm : y ∈ (cs.getD i default).take k) : plp cs i k y ≠ [] := by
 rw [plp_eq hi, if_pos (List.contains_iff_mem.2 hm)]
 simp
theorem plp_last {cs : List (List Lt)} {i k : Nat} {y : Lt} (hi : i < cs.length) (h0 : 0 < (plp cs i k y).length) : (plp cs i k y).getD ((plp cs i k y).length - 1) default = i ↔ y ∈ (cs.getD i default).take k := by
 constructor
 ·intro h
  by_cases hm : y ∈ (cs.getD i default).take k
  ·exact hm
  ·exfalso
   have e : plp cs i k y = plc (cs.take i) y := by
    rw [plp_eq hi, if_neg (by rw [List.contains_iff_mem]; exact hm), List.append_nil]
   rw [e] at h h0
   have : (plc (cs.take i) y).getD ((plc (cs.take i) y).length - 1) default ∈ plc (cs.take i) y := by
    rw [getD_at' (by omega)]
    exact List.getElem_mem _
   have := (plc_mem.1 this).1
   rw [take_len hi] at this
   omega
 ·intro hm
  rw [plp_eq hi, if_pos (List.contains_iff_mem.2 hm), List.length_append, List.length_singleton, Nat.add_sub_cancel]
  exact getD_snoc_eq
theorem plp_len {cs : List (List Lt)} {i : Nat} (hi : i < cs.length) (k : Nat) (y : Lt) : (plp cs i k y).length ≤ i + 1 := by
 rw [plp_eq hi, List.length_append]
 have := plc_len (cs.take i) y
 rw [take_len hi] at this
 split <;> simp only [List.length_singleton, List.length_nil] <;> omega
theorem ddL_same {cl : List Lt} {k : Nat} (hk : k < cl.length) (hm : cl.getD k default ∈ cl.take k) : ddL (cl.take (k + 1)) = ddL (cl.take k) := by
 rw [take_snocL hk, ddL_snoc, if_pos]
 rw [List.contains_iff_mem, ddL_mem]
 exact hm
theorem ddL_new {cl : List Lt} {k : Nat} (hk : k < cl.length) (hm : cl.getD k default ∉ cl.take k) : ddL (cl.take (k + 1)) = ddL (cl.take k) ++ [cl.getD k default] := by
 rw [take_snocL hk, ddL_snoc, if_neg]
 rw [List.contains_iff_mem, ddL_mem]
 exact hm
theorem prev_mem {cl : List Lt} {k : Nat} (hk : k < cl.length) (h0 : 0 < k) (e : cl.getD k default = cl.getD (k - 1) default) : cl.getD k default ∈ cl.take k := by
 rw [e, getD_at' (by omega)]
 exact List.mem_take_iff_getElem.2 ⟨k - 1, by omega, rfl⟩
theorem opnL_nil (cl : List Lt) : opnL [] cl = ddL cl := by
 rw [opnL_eq]
 exact List.filter_eq_self.2 fun _ _ => rfl
def opnI (cs : List (List Lt)) (i : Nat) : List Int := opnS (cs.take i) [] ++ List.replicate (cs.length - i) 0
theorem opnI_len {cs : List (List Lt)} {i : Nat} (hi : i ≤ cs.length) : (opnI cs i).length = cs.length := by
 unfold opnI
 rw [List.length_append, opnS_len, List.length_take, List.length_replicate]
 omega
theorem opnS_snoc {cs : List (List Lt)} {i : Nat} (hi : i < cs.length) : opnS (cs.take (i + 1)) [] = opnS (cs.take i) [] ++ [((ddL (cs.getD i default)).length : Int)] := by
 unfold opnS
 rw [List.take_succ_eq_append_getElem hi, List.map_append, List.map_singleton, opnL_nil, getD_at' hi]
theorem opnI_set {cs : List (List Lt)} {i : Nat} (hi : i < cs.length) : (opnI cs i).set i ((ddL (cs.getD i default)).length : Int) = opnI cs (i + 1) := by
 unfold opnI
 rw [opnS_snoc hi, show cs.length - i = (cs.length - (i + 1)) + 1 by omega, List.replicate_succ]
 have hl : (opnS (cs.take i) []).length = i := by rw [opnS_len, take_len hi]
 rw [List.set_append_right _ _ (by omega), hl, Nat.sub_self, List.set_cons_zero, List.append_assoc]
 rfl
theorem opnI_get {cs : List (List Lt)} {i : Nat} (hi : i < cs.length) : (opnI cs (i + 1)).getD i default = ((ddL (cs.getD i default)).length : Int) := by
 rw [← opnI_set hi]
 have := opnI_len (cs := cs) (i := i) (by omega)
 rw [set_getD (by omega), if_pos rfl]
theorem opnI_end (cs : List (List Lt)) : opnI cs cs.length = opnS cs [] := by
 unfold opnI
 rw [Nat.sub_self, List.replicate_zero, List.append_nil, List.take_length]
theorem opnI_zero (cs : List (List Lt)) : opnI cs 0 = List.replicate cs.length 0 := rfl
theorem satS_nil (cs : List (List Lt)) : satS cs [] = List.replicate cs.length false := by
 unfold satS
 have : satL [] = fun _ => false := funext fun c => by
  rw [Bool.eq_false_iff]
  intro h
  obtain ⟨_, _, h⟩ := sat_iff.1 h
  cases h
 rw [this, List.map_const']
end Go.Wage
namespace Go.Wage
def seqL {α : Type} (f : Nat → List α) (n : Nat) : List α := (List.range n).flatMap f
theorem seqL_zero {α : Type} (f : Nat → List α) : seqL f 0 = [] := rfl
theorem seqL_succ {α : Type} (f : Nat → List α) (n : Nat) : seqL f (n + 1) = seqL f n ++ f n := by
 unfold seqL
 rw [List.range_succ, List.flatMap_append, List.flatMap_singleton]
def aftL {α : Type} (f : Nat → List α) (a b : Nat) : List α := (List.range' (a + 1) (b - (a + 1))).flatMap f
theorem aftL_zero {α : Type} (f : Nat → List α) (a : Nat) : aftL f a (a + 1) = [] := by simp [aftL]
theorem aftL_succ {α : Type} (f : Nat → List α) {a b : Nat} (h : a + 1 ≤ b) : aftL f a (b + 1) = aftL f a b ++ f b := by
 unfold aftL
 rw [show b + 1 - (a + 1) = (b - (a + 1)) + 1 by omega, List.range'_concat, List.flatMap_append, List.flatMap_singleton, show a + 1 + 1 * (b - (a + 1)) = b by omega]
theorem aftL_end {α : Type} (f : Nat → List α) {a b : Nat} (h : b ≤ a + 1) : aftL f a b = [] := by
 unfold aftL
 rw [show b - (a + 1) = 0 by omega]
 rfl
theorem seqL_len {α : Type} {f : Nat → List α} {n k : Nat} (h : ∀ i, i < n → (f i).length ≤ k) : (seqL f n).length ≤ n * k := by
 induction n with
 | zero => simp [seqL]
 | succ n ih =>
  rw [seqL_succ, List.length_append, Nat.succ_mul]
  have := ih fun i hi => h i (by omega)
  have := h n (by omega)
  omega
theorem aftL_len {α : Type} {f : Nat → List α} {a b : Nat} (h : ∀ i, (f i).length ≤ 1) : (aftL f a b).length ≤ b := by
 induction b with
 | zero => simp [aftL]
 | succ b ih =>
  by_cases hb : a + 1 ≤ b
  ·rw [aftL_succ f hb, List.length_append]
   have := h b
   omega
  ·rw [aftL_end f (by omega)]
   simp
def yesS (d m : Nat) : List Lt := (List.range m).map fun w : Nat => (⟨(d : Int), (w : Int), true⟩ : Lt)
theorem yesS_succ (d m : Nat) : yesS d (m + 1) = yesS d m ++ [⟨(d : Int), (m : Int), true⟩] := by
 unfold yesS
 rw [List.range_succ, List.map_append]
 rfl
theorem yesS_len (d m : Nat) : (yesS d m).length = m := by simp [yesS]
theorem ex1_len (n m : Nat) : (seqL (fun d => [(⟨yesS d m, 1, []⟩ : Sg)]) n).length ≤ n := by
 have := seqL_len (f := fun d => [(⟨yesS d m, 1, []⟩ : Sg)]) (n := n) (k := 1) fun _ _ => Nat.le_refl _
 omega
def oneS (d v w : Nat) : List Sg := [⟨[⟨(d : Int), (v : Int), false⟩, ⟨(d : Int), (w : Int), false⟩], 2, []⟩]
theorem ex2_len (d v m : Nat) : (aftL (oneS d v) v m).length ≤ m := aftL_len fun _ => Nat.le_refl _
theorem ex3_len (d v m : Nat) : (seqL (fun v => aftL (oneS d v) v m) v).length ≤ v * m := seqL_len fun i _ => ex2_len d i m
theorem ex4_len (d m : Nat) : (seqL (fun d => seqL (fun v => aftL (oneS d v) v m) m) d).length ≤ d * (m * m) := seqL_len fun i _ => ex3_len i m m
def exP (n m : Nat) : List Sg := seqL (fun d => [⟨yesS d m, 1, []⟩]) n ++ seqL (fun d => seqL (fun v => aftL (oneS d v) v m) m) n
def putR (n : Nat) (w : Int) (ds : List Nat) : List Int := ds.foldl (fun r d => r.set d w) (List.replicate n (-1))
theorem putR_len (n : Nat) (w : Int) (ds : List Nat) : (putR n w ds).length = n := by
 unfold putR
 have : ∀ (ds : List Nat) (r : List Int), (ds.foldl (fun r d => r.set d w) r).length = r.length := by
  intro ds
  induction ds with
  | nil => intro r; rfl
  | cons d ds ih => intro r; rw [List.foldl_cons, ih, List.length_set]
 rw [this, List.length_replicate]
def badW (p : Pl) (w : Nat) (ds : List Nat) : Bool := !(violW p w (mineR (putR p.duties.length w ds) w)).isEmpty
def aloS (p : Pl) (w d : Nat) : List Sg := if badW p w [d] then [⟨[⟨(d : Int), (w : Int), false⟩], 3, []⟩] else []
def twoS (p : Pl) (w d e : Nat) : List Sg := if !badW p w [d] && !badW p w [e] && badW p w [d, e] then [⟨[⟨(d : Int), (w : Int), false⟩, ⟨(e : Int), (w : Int), false⟩], 3, []⟩] else []
def baseP (p : Pl) : List Sg := if validP p then exP p.duties.length p.workers.length ++ seqL (fun w => seqL (aloS p w) p.duties.length) p.workers.length ++ seqL (fun w => seqL (fun d => aftL (twoS p w d) d p.duties.length) p.duties.length) p.workers.length else []
end Go.Wage
namespace Go.Wage
theorem find_none {α : Type} {f : α → Bool} {l : List α} (h : l.findIdx? f = none) : ∀ x ∈ l, f x = false := by
 rw [List.findIdx?_eq_none_iff] at h
 exact h
theorem refU_ind {cs : List (List Lt)} {P : List Lt → Prop} (hs : ∀ out c, P out → c ∈ cs → (∀ d ∈ cs, falC out d = false) → uniC out c = true → P (out ++ [litC out c])) : ∀ (f : Nat) (out : List Lt), P out → P (refU cs f out).1
 | 0, out, h => h
 | f + 1, out, h => by
  rw [refU]
  cases h1 : cs.findIdx? (falC out) with
  | some i => exact h
  | none =>
   dsimp only
   cases h2 : cs.findIdx? (uniC out) with
   | none => exact h
   | some u =>
    dsimp only
    have h3 := find_get h2
    exact refU_ind hs f _ (hs out _ h (by simp [List.getD, h3.1]) (find_none h1) h3.2.1)
theorem unit_ind {cs : List (List Lt)} {given : List Lt} {P : List Lt → Prop} (h0 : P given) (hs : ∀ out c, P out → c ∈ cs → (∀ d ∈ cs, falC out d = false) → uniC out c = true → P (out ++ [litC out c])) : P (unitU cs given).1 :=
 refU_ind hs _ _ h0
theorem unit_len (cs : List (List Lt)) (g : List Lt) : (unitU cs g).1.length ≤ g.length + cs.length := by
 have := unit_ind (cs := cs) (given := g) (P := fun out => out.length + unsN cs out ≤ g.length + cs.length) (by have := uns_le cs g; omega) fun out c h hm _ hu => by
  have := uns_lt hm hu
  rw [List.length_append, List.length_singleton]
  omega
 omega
end Go.Wage
