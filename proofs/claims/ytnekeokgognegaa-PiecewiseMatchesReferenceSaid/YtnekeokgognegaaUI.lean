/-
  Plain: the reference's merge sort and its normal form.
  Conditions: none beyond the premises of each theorem.
-/
import Derived.Test.YtnekeokgognegaaPC
namespace Go.Wage
theorem inS_append {l m : List Sp} {x : Int} : inS (l ++ m) x ↔ inS l x ∨ inS m x := by
  induction l with
  | nil => simp [inS_nil]
  | cons s l ih => rw [List.cons_append, inS_cons, inS_cons, ih, or_assoc]
/-- the spans that solve: before they are made normal -/
def leS (a b : Sp) : Bool := decide (a.1 ≤ b.1)
def mrg (a b : List Sp) : List Sp := List.merge a b leS
theorem mrg_nil (b : List Sp) : mrg [] b = b := by unfold mrg; simp
theorem mrg_nil' (a : List Sp) : mrg a [] = a := by unfold mrg; simp
theorem mrg_cons (x y : Sp) (a b : List Sp) : mrg (x :: a) (y :: b) = if x.1 ≤ y.1 then x :: mrg a (y :: b) else y :: mrg (x :: a) b := by
  unfold mrg
  rw [List.cons_merge_cons]
  unfold leS
  by_cases h : x.1 ≤ y.1
  · rw [if_pos (by simpa using h), if_pos h]
  · rw [if_neg (by simpa using h), if_neg h]
theorem mrg_perm (a b : List Sp) : (mrg a b).Perm (a ++ b) := List.merge_perm_append _
def Asn : List Sp → Prop := List.Pairwise fun a b => a.1 ≤ b.1
theorem mrg_asn : ∀ {a b : List Sp}, Asn a → Asn b → Asn (mrg a b)
  | [], b, _, hb => by rw [mrg_nil]; exact hb
  | x :: a, [], ha, _ => by rw [mrg_nil']; exact ha
  | x :: a, y :: b, ha, hb => by
    rw [mrg_cons]
    unfold Asn at ha hb
    rw [List.pairwise_cons] at ha hb
    split
    · rename_i h
      unfold Asn
      rw [List.pairwise_cons]
      refine ⟨fun z hz => ?_, mrg_asn (a := a) ha.2 (List.pairwise_cons.2 hb)⟩
      rcases List.mem_append.1 ((mrg_perm _ _).mem_iff.1 hz) with hz | hz
      · exact ha.1 z hz
      · rcases List.mem_cons.1 hz with rfl | hz
        · exact h
        · have := hb.1 z hz; omega
    · rename_i h
      unfold Asn
      rw [List.pairwise_cons]
      refine ⟨fun z hz => ?_, mrg_asn (b := b) (List.pairwise_cons.2 ha) hb.2⟩
      rcases List.mem_append.1 ((mrg_perm _ _).mem_iff.1 hz) with hz | hz
      · rcases List.mem_cons.1 hz with rfl | hz
        · omega
        · have := ha.1 z hz; omega
      · exact hb.1 z hz
def srt : Nat → List Sp → List Sp
  | 0, l => l
  | n + 1, l => if l.length < 2 then l else mrg (srt n (l.take (l.length / 2))) (srt n (l.drop (l.length / 2)))
theorem srt_perm : ∀ (n : Nat) (l : List Sp), (srt n l).Perm l
  | 0, l => List.Perm.refl _
  | n + 1, l => by
    unfold srt
    split
    · exact List.Perm.refl _
    · refine (mrg_perm _ _).trans ?_
      have := (srt_perm n (l.take (l.length / 2))).append (srt_perm n (l.drop (l.length / 2)))
      rwa [List.take_append_drop] at this
theorem srt_asn : ∀ (n : Nat) (l : List Sp), l.length ≤ n → Asn (srt n l)
  | 0, l, h => by
    have : l = [] := List.eq_nil_of_length_eq_zero (by omega)
    subst this
    exact List.Pairwise.nil
  | n + 1, l, h => by
    unfold srt
    split
    · rename_i h2
      match l, h2 with
      | [], _ => exact List.Pairwise.nil
      | [x], _ => exact List.pairwise_singleton _ _
    · exact mrg_asn (srt_asn n _ (by rw [List.length_take]; omega)) (srt_asn n _ (by rw [List.length_drop]; omega))
/-- one step of the normal form -/
def nst (o : List Sp) (s : Sp) : List Sp :=
  if prp s = true then (match o.getLast? with
    | some t => if s.1 ≤ t.2 then o.set (o.length - 1) (t.1, max t.2 s.2) else o ++ [s]
    | none => o ++ [s])
  else o
theorem vf_snoc {s : Sp} : ∀ {o : List Sp} {lb : Int}, VF lb o → (∀ t, o.getLast? = some t → t.2 < s.1) → (o = [] → lb < s.1) → s.1 < s.2 → VF lb (o ++ [s])
  | [], lb, _, _, h2, h3 => ⟨h2 rfl, h3, trivial⟩
  | q :: o, lb, ⟨g1, g2, g3⟩, h1, _, h3 => by
    refine ⟨g1, g2, vf_snoc g3 (fun t ht => h1 t ?_) (fun he => h1 q ?_) h3⟩
    · cases o with
      | nil => simp at ht
      | cons _ _ => simpa [List.getLast?_cons_cons] using ht
    · subst he; rfl
theorem inS_one {s : Sp} {x : Int} : inS [s] x ↔ s.1 ≤ x ∧ x < s.2 := by simp [inS]
theorem last_split {o : List Sp} {t : Sp} (h : o.getLast? = some t) : ∃ o', o = o' ++ [t] := by
  rcases List.eq_nil_or_concat o with rfl | ⟨o', q, rfl⟩
  · simp at h
  · simp at h
    subst h
    exact ⟨o', by simp⟩
theorem vf_init {s : Sp} : ∀ {o : List Sp} {lb : Int}, VF lb (o ++ [s]) → VF lb o ∧ (∀ t, o.getLast? = some t → t.2 < s.1) ∧ (o = [] → lb < s.1) ∧ s.1 < s.2
  | [], lb, ⟨h1, h2, _⟩ => ⟨trivial, by simp, fun _ => h1, h2⟩
  | q :: o, lb, ⟨g1, g2, g3⟩ => by
    obtain ⟨h1, h2, h3, h4⟩ := vf_init g3
    refine ⟨⟨g1, g2, h1⟩, fun t ht => ?_, by simp, h4⟩
    cases o with
    | nil =>
      simp at ht
      subst ht
      exact h3 rfl
    | cons _ _ => exact h2 t (by simpa [List.getLast?_cons_cons] using ht)
/-- what holds of the list so far: in normal form, its last start is not above the rest -/
theorem nst_spec {o : List Sp} {s : Sp} {lb : Int} (hv : VF lb o) (hlb : prp s = true → lb < s.1) (hs : ∀ t, o.getLast? = some t → prp s = true → t.1 ≤ s.1) :
    VF lb (nst o s) ∧ (∀ x, inS (nst o s) x ↔ inS o x ∨ (prp s = true ∧ s.1 ≤ x ∧ x < s.2)) ∧ ∀ t, (nst o s).getLast? = some t → (prp s = true → t.1 ≤ s.1) ∧ (prp s = false → o.getLast? = some t) := by
  unfold nst
  by_cases hp : prp s = true
  · rw [if_pos hp]
    have hps : s.1 < s.2 := by simp only [prp, Bool.and_eq_true, decide_eq_true_eq] at hp; exact hp.2
    cases hl : o.getLast? with
    | none =>
      have : o = [] := List.getLast?_eq_none_iff.1 hl
      subst this
      dsimp only
      refine ⟨⟨hlb hp, hps, trivial⟩, fun x => ?_, fun t ht => ?_⟩
      · rw [inS_append, inS_one]; simp [hp]
      · simp at ht; subst ht; exact ⟨fun _ => Int.le_refl _, fun h => by rw [hp] at h; cases h⟩
    | some t =>
      dsimp only
      have hst := hs t hl hp
      obtain ⟨o', rfl⟩ := last_split hl
      obtain ⟨v1, v2, v3, v4⟩ := vf_init hv
      by_cases hc : s.1 ≤ t.2
      · rw [if_pos hc]
        have e : (o' ++ [t]).set ((o' ++ [t]).length - 1) (t.1, max t.2 s.2) = o' ++ [(t.1, max t.2 s.2)] := by simp
        rw [e]
        refine ⟨vf_snoc v1 v2 v3 (by dsimp only; omega), fun x => ?_, fun q hq => ?_⟩
        · rw [inS_append, inS_append, inS_one, inS_one]
          dsimp only
          constructor
          · rintro (h | h)
            · exact .inl (.inl h)
            · by_cases hx : x < t.2
              · exact .inl (.inr ⟨h.1, hx⟩)
              · exact .inr ⟨hp, by omega, by omega⟩
          · rintro ((h | h) | h)
            · exact .inl h
            · exact .inr (by omega)
            · exact .inr (by omega)
        · simp at hq
          subst hq
          exact ⟨fun _ => hst, fun h => by rw [hp] at h; cases h⟩
      · rw [if_neg hc]
        refine ⟨vf_snoc hv (fun q hq => ?_) (by simp) hps, fun x => ?_, fun q hq => ?_⟩
        · rw [hl] at hq; cases hq; omega
        · rw [inS_append, inS_one]; simp [hp]
        · simp at hq; subst hq; exact ⟨fun _ => Int.le_refl _, fun h => by rw [hp] at h; cases h⟩
  · rw [if_neg hp]
    exact ⟨hv, fun x => by simp [hp], fun t ht => ⟨fun h => absurd h hp, fun _ => ht⟩⟩
theorem nfold_spec : ∀ (l o : List Sp), VF (-1152921504606846977) o → Asn l → (∀ t, o.getLast? = some t → ∀ s ∈ l, t.1 ≤ s.1) → VF (-1152921504606846977) (l.foldl nst o) ∧ ∀ x, inS (l.foldl nst o) x ↔ inS o x ∨ inS (l.filter prp) x
  | [], o, h, _, _ => ⟨h, fun x => by simp [inS]⟩
  | s :: l, o, h, ha, hl => by
    unfold Asn at ha
    rw [List.pairwise_cons] at ha
    obtain ⟨n1, n2, n3⟩ := nst_spec (o := o) (s := s) h (fun hp => by simp only [prp, Bool.and_eq_true, decide_eq_true_eq] at hp; omega) (fun t ht _ => hl t ht s (by simp))
    obtain ⟨i1, i2⟩ := nfold_spec l (nst o s) n1 ha.2 (fun t ht q hq => by
      obtain ⟨g1, g2⟩ := n3 t ht
      cases hp : prp s with
      | true => have := g1 hp; have := ha.1 q hq; omega
      | false => exact hl t (g2 hp) q (by simp [hq]))
    refine ⟨i1, fun x => ?_⟩
    rw [List.foldl_cons, i2, n2]
    cases hp : prp s with
    | true =>
      rw [List.filter_cons_of_pos (by simpa using hp)]
      rw [show s :: l.filter prp = [s] ++ l.filter prp from rfl, inS_append, inS_one]
      simp [or_assoc]
    | false =>
      rw [List.filter_cons_of_neg (by simp [hp])]
      simp
theorem inS_perm {a b : List Sp} (h : a.Perm b) (x : Int) : inS a x ↔ inS b x := by
  unfold inS
  exact ⟨fun ⟨s, hs, k⟩ => ⟨s, h.mem_iff.1 hs, k⟩, fun ⟨s, hs, k⟩ => ⟨s, h.mem_iff.2 hs, k⟩⟩
theorem nrm4_eq (l : List Sp) : (srt l.length l).foldl nst [] = nrm l := by
  obtain ⟨h1, h2⟩ := nfold_spec (srt l.length l) [] trivial (srt_asn _ _ (Nat.le_refl _)) (by simp)
  refine nrm_uniq h1 fun x => ?_
  rw [h2, inS_perm ((srt_perm _ l).filter prp)]
  simp [inS]
end Go.Wage
