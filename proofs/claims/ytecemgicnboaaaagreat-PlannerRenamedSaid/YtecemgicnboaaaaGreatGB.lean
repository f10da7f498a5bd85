/-
  Plain part of chapter 21: a worker's violations, one by one.
  Conditions: those of each theorem.
-/
import Derived.Test.YtecemgicnboaaaaGreatGA
import Derived.Test.YtecemgicnboaaaaGreatPB
namespace Go.Wage
def restA (p : Pl) : List Nat → Bool
  | [] => false
  | d :: l => l.any (restB p d) || restA p l
theorem restA_f {p : Pl} : ∀ {l : List Nat}, restA p l = false ↔ l.Pairwise fun d e => restB p d e = false
  | [] => by simp [restA]
  | d :: l => by
    rw [restA, Bool.or_eq_false_iff, restA_f, List.pairwise_cons, List.any_eq_false]
    simp
def unD (p : Pl) (x : Wk) (d : Du) : Bool := (skB x d || (x.minor && niB p d)) || awB x d
def unB (p : Pl) (x : Wk) (mine : List Nat) : Bool := mine.any fun d => unD p x (p.duties.getD d default)
def dayB (p : Pl) (x : Wk) (T : Tri) (day : Int) : Bool := (x.minor && decide (p.lim.minor < sumT T day)) || decide (p.lim.week < week7 T day)
def ovB (p : Pl) (x : Wk) (mine : List Nat) : Bool := ((trip p mine).map (·.2.1)).any (dayB p x (trip p mine))
def violK (p : Pl) (x : Wk) (mine : List Nat) : Bool := (unB p x mine || restA p mine) || ovB p x mine
theorem violK_f {p : Pl} {w : Nat} {l : List Nat} : violK p (p.workers.getD w default) l = false ↔ violW p w l = [] := by
  rw [violW_nil]
  unfold violK unB ovB unD dayB
  simp only [Bool.or_eq_false_iff, List.any_eq_false, restA_f, Bool.or_eq_true, Bool.and_eq_true, decide_eq_true_eq]
  constructor
  · rintro ⟨⟨h1, h2⟩, h3⟩
    refine ⟨fun d hd => ?_, fun d hd => ?_, h2, fun day hd => ?_, fun hm d hd => ?_, fun hm day hd => ?_⟩
    · have := h1 d hd
      simp only [not_or, Bool.not_eq_true] at this
      exact this.1.1
    · have := h1 d hd
      simp only [not_or, Bool.not_eq_true] at this
      exact this.2
    · have := h3 day hd
      omega
    · have := h1 d hd
      simp only [not_or, Bool.not_eq_true, not_and] at this
      exact this.1.2 hm
    · have := h3 day hd
      simp only [not_or, not_and] at this
      have := this.1 hm
      omega
  · rintro ⟨h1, h2, h3, h4, h5, h6⟩
    refine ⟨⟨fun d hd => ?_, h3⟩, fun day hd => ?_⟩
    · simp only [not_or, Bool.not_eq_true, not_and]
      exact ⟨⟨h1 d hd, fun hm => h5 hm d hd⟩, h2 d hd⟩
    · have a := h4 day hd
      simp only [not_or, not_and]
      exact ⟨fun hm => by have := h6 hm day hd; omega, by omega⟩
theorem violB_K {p : Pl} {ro : List Int} : violB p ro = (List.range p.workers.length).any fun w => violK p (p.workers.getD w default) (mineR ro w) := by
  unfold violB
  congr 1
  funext w
  cases h : violK p (p.workers.getD w default) (mineR ro w) with
  | false => rw [violK_f.1 h]; rfl
  | true =>
    cases hv : violW p w (mineR ro w) with
    | nil => rw [violK_f.2 hv] at h; cases h
    | cons _ _ => rfl
theorem VF.lts : ∀ {l : List Sp} {lb : Int}, VF lb l → ∀ s ∈ l, s.1 < s.2
  | [], _, _, s, hs => by cases hs
  | t :: l, lb, h, s, hs => by
    rcases List.mem_cons.1 hs with rfl | hs
    · exact h.2.1
    · exact VF.lts h.2.2 s hs
theorem away_prp {x : Wk} (h : wkOk x = true) : ∀ t ∈ x.away, prp t = true := by
  unfold wkOk at h
  simp only [Bool.and_eq_true, decide_eq_true_eq, List.all_eq_true] at h
  intro t ht
  have h1 := h.1.2
  unfold validS at h1
  rw [decide_eq_true_eq] at h1
  have h2 := (nrm_spec x.away).1
  rw [h1] at h2
  have h3 := h2.lts t ht
  have h4 := h.2 t ht
  unfold prp
  simp only [Bool.and_eq_true, decide_eq_true_eq]
  omega
def awT (d : Du) (t : Sp) : Bool := decide (t.1 < d.to_) && decide (d.frm < t.2)
theorem awB_any {x : Wk} {d : Du} (h : wkOk x = true) (hd : duB d = true) : awB x d = x.away.any (awT d) := by
  have hp : prp (d.frm, d.to_) = true := by
    unfold duB at hd
    rw [decide_eq_true_eq] at hd
    unfold prp
    simp only [Bool.and_eq_true, decide_eq_true_eq]
    omega
  unfold awB meetB
  rw [Bool.eq_iff_iff, List.any_eq_true, List.any_eq_true]
  constructor
  · rintro ⟨t, ht, h1⟩
    simp only [Bool.and_eq_true] at h1
    exact ⟨t, ht, by unfold awT; simp only [Bool.and_eq_true]; exact ⟨h1.1.2, h1.2⟩⟩
  · rintro ⟨t, ht, h1⟩
    unfold awT at h1
    simp only [Bool.and_eq_true] at h1
    exact ⟨t, ht, by simp only [Bool.and_eq_true]; exact ⟨⟨⟨away_prp h t ht, hp⟩, h1.1⟩, h1.2⟩⟩
theorem any_take {α : Type} [Inhabited α] {f : α → Bool} {l : List α} {k : Nat} (h : (l.take k).any f = false) (hk : k < l.length) (hf : f (l.getD k default) = false) : (l.take (k + 1)).any f = false := by
  have e : l[k] = l.getD k default := by simp [List.getD, hk]
  rw [List.take_succ_eq_append_getElem hk, List.any_append, h, e, List.any_cons, hf]
  rfl
theorem any_at {α : Type} [Inhabited α] {f : α → Bool} {l : List α} {k : Nat} (hk : k < l.length) (hf : f (l.getD k default) = true) : l.any f = true :=
  List.any_eq_true.2 ⟨_, by simp [List.getD, hk], hf⟩
end Go.Wage
