/-
  Plain part of chapter 18: the violations of a worker and of a roster.
  Conditions: those of each theorem.
-/
import Derived.Test.YtjfnkmlnbaianaaGreatZM
import Derived.Test.YtjfnkmlnbaianaaGreatZR
namespace Go.Wage
open Go.E2
def mineR (ro : List Int) (w : Int) : List Nat := (List.range ro.length).filter fun i => decide (ro.getD i default = w)
def skB (w : Wk) (d : Du) : Bool := decide (d.skill.toNat - (d.skill.toNat &&& w.skill.toNat) ≠ 0)
def awB (w : Wk) (d : Du) : Bool := meetB w.away (d.frm, d.to_)
def niB (p : Pl) (d : Du) : Bool := decide (nightD p d ≠ 0)
def sing (kind w : Int) (f : Nat → Bool) (mine : List Nat) : List Vi := (mine.filter f).map fun d : Nat => (⟨kind, w, d, -1⟩ : Vi)
def restB (p : Pl) (d e : Nat) : Bool := decide (restR (p.duties.getD d default) (p.duties.getD e default) < p.lim.rest)
def restL (p : Pl) (w : Int) : List Nat → List Vi
 | [] => []
 | d :: l => ((l.filter (restB p d)).map fun e : Nat => (⟨3, w, d, e⟩ : Vi)) ++ restL p w l
abbrev Tri := List (Nat × Int × Int)
def trip (p : Pl) (mine : List Nat) : Tri := mine.flatMap fun d => (minsD p (p.duties.getD d default)).map fun q => (d, q.1, q.2)
def sumT (l : Tri) (day : Int) : Int := (l.map fun t => if t.2.1 = day then t.2.2 else 0).sum
def dutT (l : Tri) (day : Int) : List Nat := (l.filter fun t => decide (t.2.1 = day)).map (·.1)
def week7 (l : Tri) (day : Int) : Int := ((List.range 7).map fun i : Nat => sumT l (day + i)).sum
def loT (l : Tri) (day : Int) : Int := ((dutT l day).getD 0 default : Nat)
def hiT (l : Tri) (day : Int) : Int := if 1 < (dutT l day).length then ((dutT l day).getD ((dutT l day).length - 1) default : Nat) else -1
def weekL (p : Pl) (w : Int) (T : Tri) : List Vi := ((T.map (·.2.1)).filter fun day => decide (p.lim.week < week7 T day)).map fun day => ⟨4, w, loT T day, -1⟩
def minL (p : Pl) (w : Int) (T : Tri) : List Vi := ((T.map (·.2.1)).filter fun day => decide (p.lim.minor < sumT T day)).map fun day => ⟨6, w, loT T day, hiT T day⟩
def violW (p : Pl) (w : Nat) (mine : List Nat) : List Vi :=
 sing 1 w (fun d => skB (p.workers.getD w default) (p.duties.getD d default)) mine ++ (sing 2 w (fun d => awB (p.workers.getD w default) (p.duties.getD d default)) mine ++ (restL p w mine ++ (weekL p w (trip p mine) ++
  ((if (p.workers.getD w default).minor then sing 5 w (fun d => niB p (p.duties.getD d default)) mine else []) ++ (if (p.workers.getD w default).minor then minL p w (trip p mine) else [])))))
theorem sumT_app (a b : Tri) (day : Int) : sumT (a ++ b) day = sumT a day + sumT b day := by simp [sumT]
theorem dutT_app (a b : Tri) (day : Int) : dutT (a ++ b) day = dutT a day ++ dutT b day := by simp [dutT]
def posT (l : Tri) : Prop := ∀ t ∈ l, 0 < t.2.2 ∧ t.2.2 ≤ 44640 * 65
theorem sumT_cons (t : Nat × Int × Int) (l : Tri) (day : Int) : sumT (t :: l) day = (if t.2.1 = day then t.2.2 else 0) + sumT l day := by simp [sumT]
theorem sumT_bd (day : Int) : ∀ {l : Tri}, posT l → 0 ≤ sumT l day ∧ sumT l day ≤ 2901600 * l.length
 | [], _ => by simp [sumT]
 | t :: l, h => by
  have h1 := h t (by simp)
  have h2 := sumT_bd day (l := l) fun u hu => h u (by simp [hu])
  rw [sumT_cons, List.length_cons]
  split <;> omega
theorem sumT_pos {day : Int} : ∀ {l : Tri}, posT l → (0 < sumT l day ↔ day ∈ l.map (·.2.1))
 | [], _ => by simp [sumT]
 | t :: l, h => by
  have h1 := h t (by simp)
  have h2 := sumT_bd day (l := l) fun u hu => h u (by simp [hu])
  have h3 := sumT_pos (day := day) (l := l) fun u hu => h u (by simp [hu])
  rw [sumT_cons, List.map_cons, List.mem_cons, ← h3]
  by_cases e : t.2.1 = day
  ·rw [if_pos e]
   exact ⟨fun _ => .inl e.symm, fun _ => by omega⟩
  ·rw [if_neg e]
   exact ⟨fun h => .inr (by omega), fun h => by rcases h with h | h; exact absurd h.symm e; omega⟩
theorem dutT_ne {day : Int} {l : Tri} : dutT l day ≠ [] ↔ day ∈ l.map (·.2.1) := by
 unfold dutT
 rw [ne_eq, List.map_eq_nil_iff, List.filter_eq_nil_iff]
 constructor
 ·intro h
  apply Classical.byContradiction
  intro hn
  exact h fun t ht => by
   simp only [decide_eq_true_eq]
   rintro rfl
   exact hn (List.mem_map.2 ⟨t, ht, rfl⟩)
 ·intro h hn
  obtain ⟨t, ht, rfl⟩ := List.mem_map.1 h
  exact hn t ht (by simp)
theorem dutT_len (day : Int) (l : Tri) : (dutT l day).length ≤ l.length := by
 unfold dutT
 rw [List.length_map]
 exact List.length_filter_le _ _
def lkE {β : Type} (x : Int) : List (Int × β) → List (Int × β)
 | [] => []
 | e :: l => if e.1 = x then l else e :: lkE x l
theorem lkE_sub {β : Type} (x : Int) : ∀ l : List (Int × β), (lkE x l).Sublist l
 | [] => .slnil
 | e :: l => by
  rw [lkE]
  split
  ·exact List.sublist_cons_self _ _
  ·exact (lkE_sub x l).cons_cons _
theorem lkE_spec {β : Type} {x : Int} : ∀ {l : List (Int × β)}, (l.map (·.1)).Nodup → ((lkE x l).map (·.1)).Nodup ∧ ∀ y, lk y (lkE x l) = if y = x then none else lk y l
 | [], _ => ⟨by simp [lkE], fun y => by simp [lkE, lk]⟩
 | e :: l, h => by
  rw [List.map_cons, List.nodup_cons] at h
  obtain ⟨i1, i2⟩ := lkE_spec (x := x) h.2
  rw [lkE]
  by_cases he : e.1 = x
  ·rw [if_pos he]
   refine ⟨h.2, fun y => ?_⟩
   by_cases hy : y = x
   ·rw [if_pos hy, hy, ← he]
    cases hk : lk e.1 l with
    | none => rfl
    | some b => exact absurd (lk_key.2 (by rw [hk]; rfl)) h.1
   ·rw [if_neg hy, lk, if_neg (by rw [he]; exact hy)]
  ·rw [if_neg he]
   refine ⟨?_, fun y => ?_⟩
   ·rw [List.map_cons, List.nodup_cons]
    exact ⟨fun hm => h.1 (((lkE_sub x l).map _).subset hm), i1⟩
   ·rw [lk, i2]
    by_cases hy : y = e.1
    ·rw [if_pos hy, if_neg (by rw [hy]; exact he), lk, if_pos hy]
    ·rw [if_neg hy, lk, if_neg hy]
theorem lkE_perm {β : Type} {x : Int} {b : β} : ∀ {l : List (Int × β)}, lk x l = some b → l.Perm ((x, b) :: lkE x l)
 | [], h => by cases h
 | e :: l, h => by
  rw [lk] at h
  by_cases he : x = e.1
  ·rw [if_pos he] at h
   injection h with h
   subst h
   rw [lkE, if_pos he.symm, he]
  ·rw [if_neg he] at h
   rw [lkE, if_neg fun e' => he e'.symm]
   exact ((lkE_perm h).cons _).trans (.swap _ _ _)
theorem lkE_none {β : Type} {x : Int} : ∀ {l : List (Int × β)}, lk x l = none → lkE x l = l
 | [], _ => rfl
 | e :: l, h => by
  rw [lk] at h
  by_cases he : x = e.1
  ·rw [if_pos he] at h; cases h
  ·rw [if_neg he] at h
   rw [lkE, if_neg fun e' => he e'.symm, lkE_none h]
end Go.Wage
namespace Go.Wage
def ltV (a b : Vi) : Prop := a.kind < b.kind ∨ (a.kind = b.kind ∧ (a.wk < b.wk ∨ (a.wk = b.wk ∧ (a.fst < b.fst ∨ (a.fst = b.fst ∧ a.snd < b.snd)))))
instance (a b : Vi) : Decidable (ltV a b) := by unfold ltV; infer_instance
theorem ltV_irr (a : Vi) : ¬ ltV a a := by unfold ltV; omega
theorem ltV_tr {a b c : Vi} (h1 : ltV a b) (h2 : ltV b c) : ltV a c := by unfold ltV at *; omega
theorem Vi.ext4 {a b : Vi} (h1 : a.kind = b.kind) (h2 : a.wk = b.wk) (h3 : a.fst = b.fst) (h4 : a.snd = b.snd) : a = b := by
 cases a; cases b; simp only at *; subst h1; subst h2; subst h3; subst h4; rfl
theorem ltV_tot {a b : Vi} (h : ¬ ltV b a) (hn : a ≠ b) : ltV a b := by
 by_cases h4 : a.kind = b.kind ∧ a.wk = b.wk ∧ a.fst = b.fst ∧ a.snd = b.snd
 ·exact absurd (Vi.ext4 h4.1 h4.2.1 h4.2.2.1 h4.2.2.2) hn
 ·unfold ltV at *; omega
def insV (v : Vi) : List Vi → List Vi
 | [] => [v]
 | x :: l => if ltV v x then v :: x :: l else if v = x then x :: l else x :: insV v l
theorem insV_mem {v x : Vi} : ∀ {l : List Vi}, x ∈ insV v l ↔ x = v ∨ x ∈ l
 | [] => by simp [insV]
 | y :: l => by
  have ih := insV_mem (v := v) (x := x) (l := l)
  rw [insV]
  split
  ·simp
  ·split
   ·rename_i h; subst h; simp
   ·rw [List.mem_cons, ih, List.mem_cons]
    constructor
    ·rintro (h | h | h)
     ·exact .inr (.inl h)
     ·exact .inl h
     ·exact .inr (.inr h)
    ·rintro (h | h | h)
     ·exact .inr (.inl h)
     ·exact .inl h
     ·exact .inr (.inr h)
theorem insV_ord {v : Vi} : ∀ {l : List Vi}, l.Pairwise ltV → (insV v l).Pairwise ltV
 | [], _ => by simp [insV]
 | y :: l, h => by
  have h0 := h
  rw [List.pairwise_cons] at h
  rw [insV]
  split
  ·rename_i hv
   rw [List.pairwise_cons]
   refine ⟨fun x hx => ?_, h0⟩
   rcases List.mem_cons.1 hx with rfl | hx
   ·exact hv
   ·exact ltV_tr hv (h.1 x hx)
  ·split
   ·exact h0
   ·rename_i h1 h2
    rw [List.pairwise_cons]
    refine ⟨fun x hx => ?_, insV_ord h.2⟩
    rcases insV_mem.1 hx with rfl | hx
    ·exact ltV_tot h1 fun e => h2 e.symm
    ·exact h.1 x hx
def canV (l : List Vi) : List Vi := l.foldr insV []
theorem canV_mem {x : Vi} : ∀ {l : List Vi}, x ∈ canV l ↔ x ∈ l
 | [] => Iff.rfl
 | y :: l => by
  rw [canV, List.foldr_cons, insV_mem, List.mem_cons, ← canV_mem (l := l)]
  rfl
theorem canV_ord : ∀ l : List Vi, (canV l).Pairwise ltV
 | [] => .nil
 | _ :: l => insV_ord (canV_ord l)
theorem canV_uniq {l m : List Vi} (h : m.Pairwise ltV) (hm : ∀ x, x ∈ m ↔ x ∈ l) : m = canV l := ord_ext ltV_irr (fun _ _ _ => ltV_tr) h (canV_ord l) fun x => (hm x).trans canV_mem.symm
def violAll (p : Pl) (ro : List Int) : List Vi := (List.range p.workers.length).flatMap fun w => violW p w (mineR ro w)
def badP (p : Pl) (ro : List Int) : List Vi := canV (violAll p ro)
def okRo (p : Pl) (ro : List Int) : Bool := validP p && isRo p ro
end Go.Wage
namespace Go.Wage
open Go.E2
theorem badP_nil {p : Pl} {ro : List Int} : badP p ro = [] ↔ ∀ w, w < p.workers.length → violW p w (mineR ro w) = [] := by
 have h : badP p ro = [] ↔ violAll p ro = [] := by
  unfold badP
  constructor
  ·intro h
   apply List.eq_nil_iff_forall_not_mem.2
   intro x hx
   have := canV_mem.2 hx
   rw [h] at this
   cases this
  ·intro h; rw [h]; rfl
 rw [h]
 unfold violAll
 rw [List.flatMap_eq_nil_iff]
 exact ⟨fun h w hw => h w (List.mem_range.2 hw), fun h w hw => h w (List.mem_range.1 hw)⟩
theorem restL_nil {p : Pl} {w : Int} : ∀ {l : List Nat}, restL p w l = [] ↔ l.Pairwise fun d e => restB p d e = false
 | [] => by simp [restL]
 | d :: l => by
  rw [restL, List.append_eq_nil_iff, List.map_eq_nil_iff, List.filter_eq_nil_iff, restL_nil, List.pairwise_cons]
  simp
theorem sing_nil {kind w : Int} {f : Nat → Bool} {l : List Nat} : sing kind w f l = [] ↔ ∀ d ∈ l, f d = false := by
 unfold sing
 rw [List.map_eq_nil_iff, List.filter_eq_nil_iff]
 simp
theorem weekL_nil {p : Pl} {w : Int} {T : Tri} : weekL p w T = [] ↔ ∀ day ∈ T.map (·.2.1), week7 T day ≤ p.lim.week := by
 unfold weekL
 rw [List.map_eq_nil_iff, List.filter_eq_nil_iff]
 simp
theorem minL_nil {p : Pl} {w : Int} {T : Tri} : minL p w T = [] ↔ ∀ day ∈ T.map (·.2.1), sumT T day ≤ p.lim.minor := by
 unfold minL
 rw [List.map_eq_nil_iff, List.filter_eq_nil_iff]
 simp
theorem ite_nil {b : Bool} {l : List Vi} : (if b = true then l else []) = [] ↔ (b = true → l = []) := by
 split <;> simp_all
theorem violW_nil {p : Pl} {w : Nat} {l : List Nat} : violW p w l = [] ↔ (∀ d ∈ l, skB (p.workers.getD w default) (p.duties.getD d default) = false) ∧ (∀ d ∈ l, awB (p.workers.getD w default) (p.duties.getD d default) = false) ∧ (l.Pairwise fun d e => restB p d e = false) ∧ (∀ day ∈ (trip p l).map (·.2.1), week7 (trip p l) day ≤ p.lim.week) ∧
  ((p.workers.getD w default).minor = true → ∀ d ∈ l, niB p (p.duties.getD d default) = false) ∧ ((p.workers.getD w default).minor = true → ∀ day ∈ (trip p l).map (·.2.1), sumT (trip p l) day ≤ p.lim.minor) := by
 unfold violW
 simp only [List.append_eq_nil_iff, sing_nil, restL_nil, weekL_nil, minL_nil, ite_nil]
theorem sumT_sub (day : Int) : ∀ {a b : Tri}, a.Sublist b → posT b → sumT a day ≤ sumT b day
 | _, _, .slnil, _ => Int.le_refl _
 | _, _, .cons x h, hp => by
  have ih := sumT_sub day h fun t ht => hp t (by simp [ht])
  have := hp x (by simp)
  rw [sumT_cons]
  split <;> omega
 | _, _, .cons_cons x h, hp => by
  have ih := sumT_sub day h fun t ht => hp t (by simp [ht])
  rw [sumT_cons, sumT_cons]
  omega
theorem trip_sub (p : Pl) {a b : List Nat} (h : a.Sublist b) : (trip p a).Sublist (trip p b) := by
 unfold trip
 induction h with
 | slnil => exact .slnil
 | cons x h ih => rw [List.flatMap_cons]; exact ih.trans (List.sublist_append_right _ _)
 | cons_cons x h ih => rw [List.flatMap_cons, List.flatMap_cons]; exact (List.Sublist.refl _).append ih
theorem sum_le : ∀ {n : Nat} {f g : Nat → Int}, (∀ i, f i ≤ g i) → ((List.range n).map f).sum ≤ ((List.range n).map g).sum
 | 0, _, _, _ => by simp
 | n + 1, f, g, h => by
  have ih := sum_le (n := n) h
  have := h n
  rw [List.range_succ, List.map_append, List.map_append, List.sum_append, List.sum_append]
  simp
  omega
theorem violW_sub {p : Pl} {w : Nat} {a b : List Nat} (hs : a.Sublist b) (hp : posT (trip p b)) (h : violW p w b = []) : violW p w a = [] := by
 have := violW_nil.1 h
 have ht := trip_sub p hs
 refine violW_nil.2 ⟨fun d hd => this.1 d (hs.subset hd), fun d hd => this.2.1 d (hs.subset hd), this.2.2.1.sublist hs, fun day hday => ?_, fun hm d hd => this.2.2.2.2.1 hm d (hs.subset hd), fun hm day hday => ?_⟩
 ·have h1 := this.2.2.2.1 day ((ht.map _).subset hday)
  refine Int.le_trans ?_ h1
  unfold week7
  exact sum_le fun i => sumT_sub _ ht hp
 ·have h1 := this.2.2.2.2.2 hm day ((ht.map _).subset hday)
  exact Int.le_trans (sumT_sub _ ht hp) h1
theorem filter_sub {α : Type} {f g : α → Bool} (h : ∀ x, f x = true → g x = true) : ∀ l : List α, (l.filter f).Sublist (l.filter g)
 | [] => .slnil
 | x :: l => by
  have ih := filter_sub h l
  rw [List.filter_cons, List.filter_cons]
  by_cases hf : f x = true
  ·rw [if_pos hf, if_pos (h x hf)]; exact ih.cons_cons _
  ·rw [if_neg hf]
   split
   ·exact ih.cons _
   ·exact ih
def Par (ro ro' : List Int) : Prop := ro'.length = ro.length ∧ ∀ k, ro'.getD k default = ro.getD k default ∨ ro'.getD k default = -1
theorem Par.set {ro ro' : List Int} (h : Par ro ro') (i : Nat) (hi : i < ro.length) : Par ro (ro'.set i (-1)) := by
 refine ⟨by rw [List.length_set]; exact h.1, fun k => ?_⟩
 have h1 := h.2 k
 have hi' : i < ro'.length := by rw [h.1]; exact hi
 by_cases e : i = k
 ·subst e
  right
  simp [List.getD, hi']
 ·have : (ro'.set i (-1)).getD k default = ro'.getD k default := by
   simp [List.getD, e]
  rw [this]; exact h1
theorem Par.mine {ro ro' : List Int} (h : Par ro ro') (w : Nat) : (mineR ro' w).Sublist (mineR ro w) := by
 unfold mineR
 rw [h.1]
 refine filter_sub (fun k hk => ?_) _
 rw [decide_eq_true_eq] at *
 have := h.2 k
 omega
theorem Par.ok {p : Pl} {ro ro' : List Int} (h : Par ro ro') (hk : okRo p ro = true) : okRo p ro' = true := by
 unfold okRo isRo at *
 simp only [Bool.and_eq_true, decide_eq_true_eq, List.all_eq_true] at *
 refine ⟨hk.1, by rw [h.1]; exact hk.2.1, fun w hw => ?_⟩
 obtain ⟨k, hlt, rfl⟩ := List.mem_iff_getElem.1 hw
 have h1 := h.2 k
 have hlt' : k < ro.length := by rw [← h.1]; exact hlt
 have h2 := hk.2.2 _ (List.getElem_mem hlt')
 simp only [List.getD, List.getElem?_eq_getElem hlt, List.getElem?_eq_getElem hlt', Option.getD_some] at h1
 omega
theorem Par.bad {p : Pl} {ro ro' : List Int} (h : Par ro ro') (hp : ∀ w, w < p.workers.length → posT (trip p (mineR ro w))) (hb : badP p ro = []) : badP p ro' = [] := by
 rw [badP_nil] at *
 exact fun w hw => violW_sub (h.mine w) (hp w hw) (hb w hw)
end Go.Wage
