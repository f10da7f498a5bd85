/-
  Plain part of layer 12: the persons of a store, in order.
  Conditions: those of each theorem.
-/
import Derived.Test.YtkdbijfkcjcjmaaF12B
namespace Go.Wage
theorem uniqR {α : Type} {r : α → α → Prop} (ha : ∀ a b, r a b → ¬ r b a) : ∀ {a b : List α}, a.Pairwise r → b.Pairwise r → (∀ x, x ∈ a ↔ x ∈ b) → a = b
  | [], [], _, _, _ => rfl
  | [], y :: b, _, _, h => absurd ((h y).2 (by simp)) (by simp)
  | x :: a, [], _, _, h => absurd ((h x).1 (by simp)) (by simp)
  | x :: a, y :: b, h1, h2, h => by
    rw [List.pairwise_cons] at h1 h2
    have e : x = y := by
      rcases List.mem_cons.1 ((h x).1 (by simp)) with k1 | k1
      · exact k1
      · rcases List.mem_cons.1 ((h y).2 (by simp)) with k2 | k2
        · exact k2.symm
        · exact absurd (h1.1 y k2) (ha _ _ (h2.1 x k1))
    subst e
    rw [uniqR ha h1.2 h2.2 fun z => ?_]
    have hx : ∀ z, r x z → z ≠ x := fun z hz e => by subst e; exact ha _ _ hz hz
    constructor
    · intro hz
      rcases List.mem_cons.1 ((h z).1 (by simp [hz])) with k1 | k1
      · exact absurd k1 (hx z (h1.1 z hz))
      · exact k1
    · intro hz
      rcases List.mem_cons.1 ((h z).2 (by simp [hz])) with k1 | k1
      · exact absurd k1 (hx z (h2.1 z hz))
      · exact k1
def bsA (s : ByteArray) : List UInt8 := s.data.toList
theorem bsA_inj {a b : ByteArray} (h : bsA a = bsA b) : a = b := by
  obtain ⟨a⟩ := a
  obtain ⟨b⟩ := b
  have h : a.toList = b.toList := h
  rw [Array.toList_inj.1 h]
/-- insertion into an ascending list -/
def insS (l : List ByteArray) (n : ByteArray) : List ByteArray := match l with
  | [] => [n]
  | x :: l => if bsA x < bsA n then x :: insS l n else if x = n then x :: l else n :: x :: l
theorem insS_drop {l : List ByteArray} {n : ByteArray} {k : Nat} (h : ∀ j, j < k → bsA (l.getD j default) < bsA n) (hk : k ≤ l.length) : insS l n = l.take k ++ insS (l.drop k) n := by
  induction k generalizing l with
  | zero => simp
  | succ k ih =>
    cases l with
    | nil => simp at hk
    | cons x l =>
      have h0 : bsA x < bsA n := by simpa using h 0 (by omega)
      rw [List.take_succ_cons, List.drop_succ_cons, List.cons_append, ← ih (fun j hj => by simpa using h (j + 1) (by omega)) (by simpa using hk), insS, if_pos h0]
theorem insS_mem {l : List ByteArray} {n x : ByteArray} : x ∈ insS l n ↔ x = n ∨ x ∈ l := by
  induction l with
  | nil => simp [insS]
  | cons y l ih =>
    rw [insS]
    split
    · rw [List.mem_cons, ih, List.mem_cons]
      grind
    · split
      · grind
      · grind
abbrev AscS (l : List ByteArray) : Prop := l.Pairwise fun a b => bsA a < bsA b
theorem insS_asc {l : List ByteArray} {n : ByteArray} (h : AscS l) : AscS (insS l n) := by
  induction l with
  | nil => simp [insS, AscS]
  | cons y l ih =>
    unfold AscS at h ih ⊢
    rw [List.pairwise_cons] at h
    rw [insS]
    split
    · rw [List.pairwise_cons]
      refine ⟨fun z hz => ?_, ih h.2⟩
      rcases insS_mem.1 hz with rfl | hz
      · assumption
      · exact h.1 z hz
    · split
      · exact List.pairwise_cons.2 h
      · rename_i h1 h2
        have hlt : bsA n < bsA y := by
          rcases Decidable.em (bsA n < bsA y) with h3 | h3
          · exact h3
          · exact absurd (bsA_inj (List.le_antisymm (List.not_lt.1 h3) (List.not_lt.1 h1))) h2
        rw [List.pairwise_cons]
        refine ⟨fun z hz => ?_, List.pairwise_cons.2 h⟩
        rcases List.mem_cons.1 hz with rfl | hz
        · exact hlt
        · exact List.lt_trans hlt (h.1 z hz)
theorem insS_len {l : List ByteArray} {n : ByteArray} : (insS l n).length ≤ l.length + 1 := by
  induction l with
  | nil => simp [insS]
  | cons y l ih =>
    rw [insS]
    split
    · simp only [List.length_cons]; omega
    · split <;> simp
def pplR (fs : List Fa) : List ByteArray := fs.foldl (fun l f => insS l f.person) []
theorem ppl_spec (fs : List Fa) : AscS (pplR fs) ∧ (∀ x, x ∈ pplR fs ↔ ∃ f ∈ fs, f.person = x) ∧ (pplR fs).length ≤ fs.length := by
  refine snoc_cases (P := fun fs => AscS (pplR fs) ∧ (∀ x, x ∈ pplR fs ↔ ∃ f ∈ fs, f.person = x) ∧ (pplR fs).length ≤ fs.length) ?_ (fun fs f ih => ?_) fs
  · simp [pplR, AscS]
  · obtain ⟨h1, h2, h3⟩ := ih
    have e : pplR (fs ++ [f]) = insS (pplR fs) f.person := by simp [pplR]
    rw [e]
    refine ⟨insS_asc h1, fun x => ?_, ?_⟩
    · rw [insS_mem, h2]
      simp only [List.mem_append, List.mem_singleton]
      constructor
      · rintro (rfl | ⟨g, hg, rfl⟩)
        · exact ⟨f, .inr rfl, rfl⟩
        · exact ⟨g, .inl hg, rfl⟩
      · rintro ⟨g, hg | rfl, rfl⟩
        · exact .inr ⟨g, hg, rfl⟩
        · exact .inl rfl
    · have := insS_len (l := pplR fs) (n := f.person)
      rw [List.length_append]
      simp only [List.length_singleton]
      omega
/-- any list of the same persons without doubles, sorted, is this one -/
theorem ppl_sort {fs : List Fa} {l : List ByteArray} (hn : l.Nodup) (hm : ∀ x, x ∈ l ↔ ∃ f ∈ fs, f.person = x) : (l.map bsA).mergeSort (fun x y => decide (x ≤ y)) = (pplR fs).map bsA := by
  obtain ⟨h1, h2, _⟩ := ppl_spec fs
  have hs := List.pairwise_mergeSort (le := fun x y : List UInt8 => decide (x ≤ y)) (fun a b c h1 h2 => by simp only [decide_eq_true_eq] at *; exact List.le_trans h1 h2) (fun a b => by simp only [Bool.or_eq_true, decide_eq_true_eq]; exact List.le_total a b) (l.map bsA)
  have hd : ((l.map bsA).mergeSort (fun x y => decide (x ≤ y))).Nodup := (List.mergeSort_perm _ _).nodup_iff.2 (List.pairwise_map.2 (hn.imp fun h e => h (bsA_inj e)))
  refine uniqR (r := fun a b => a < b) (fun a b h => List.lt_asymm h) ((hs.and hd).imp fun {a b} h => ?_) (List.pairwise_map.2 h1) fun x => ?_
  · rcases Decidable.em (a < b) with h3 | h3
    · exact h3
    · exact absurd (List.le_antisymm (by simpa using h.1) (List.not_lt.1 h3)) h.2
  · rw [List.mem_mergeSort, List.mem_map, List.mem_map]
    constructor
    · rintro ⟨y, hy, rfl⟩; exact ⟨y, (h2 y).2 ((hm y).1 hy), rfl⟩
    · rintro ⟨y, hy, rfl⟩; exact ⟨y, (hm y).2 ((h2 y).1 hy), rfl⟩
/-! the keys of the map -/
def kset (l : List (ByteArray × Bool)) (x : ByteArray) : List (ByteArray × Bool) := match l with
  | [] => [(x, true)]
  | p :: l => if x = p.1 then (x, true) :: l else p :: kset l x
def keysR (fs : List Fa) : List (ByteArray × Bool) := fs.foldl (fun l f => kset l f.person) []
theorem kset_mem {l : List (ByteArray × Bool)} {x y : ByteArray} : y ∈ (kset l x).map (·.1) ↔ y = x ∨ y ∈ l.map (·.1) := by
  induction l with
  | nil => simp [kset]
  | cons p l ih =>
    rw [kset]
    split
    · rename_i h
      simp only [List.map_cons, List.mem_cons, ← h]
      grind
    · simp only [List.map_cons, List.mem_cons, ih]
      grind
theorem kset_nodup {l : List (ByteArray × Bool)} {x : ByteArray} (h : (l.map (·.1)).Nodup) : ((kset l x).map (·.1)).Nodup := by
  induction l with
  | nil => simp [kset]
  | cons p l ih =>
    rw [List.map_cons, List.nodup_cons] at h
    rw [kset]
    split
    · rename_i e
      rw [List.map_cons, List.nodup_cons]
      simp only
      rw [e]; exact h
    · rename_i e
      rw [List.map_cons, List.nodup_cons]
      refine ⟨fun hc => ?_, ih h.2⟩
      rcases kset_mem.1 hc with h' | h'
      · exact e h'.symm
      · exact h.1 h'
theorem kset_len {l : List (ByteArray × Bool)} {x : ByteArray} : (kset l x).length ≤ l.length + 1 := by
  induction l with
  | nil => simp [kset]
  | cons y l ih =>
    rw [kset]
    split <;> simp only [List.length_cons] <;> omega
theorem keys_spec (fs : List Fa) : ((keysR fs).map (·.1)).Nodup ∧ (∀ x, x ∈ (keysR fs).map (·.1) ↔ ∃ f ∈ fs, f.person = x) ∧ (keysR fs).length ≤ fs.length := by
  refine snoc_cases (P := fun fs => ((keysR fs).map (·.1)).Nodup ∧ (∀ x, x ∈ (keysR fs).map (·.1) ↔ ∃ f ∈ fs, f.person = x) ∧ (keysR fs).length ≤ fs.length) ?_ (fun fs f ih => ?_) fs
  · simp [keysR]
  · obtain ⟨h1, h2, h3⟩ := ih
    have e : keysR (fs ++ [f]) = kset (keysR fs) f.person := by simp [keysR]
    rw [e]
    refine ⟨kset_nodup h1, fun x => ?_, ?_⟩
    · rw [kset_mem, h2]
      simp only [List.mem_append, List.mem_singleton]
      constructor
      · rintro (rfl | ⟨g, hg, rfl⟩)
        · exact ⟨f, .inr rfl, rfl⟩
        · exact ⟨g, .inl hg, rfl⟩
      · rintro ⟨g, hg | rfl, rfl⟩
        · exact .inr ⟨g, hg, rfl⟩
        · exact .inl rfl
    · have := kset_len (l := keysR fs) (x := f.person)
      rw [List.length_append]
      simp only [List.length_singleton]
      omega
/-- the keys in whatever order -/
def pickK (l : List (ByteArray × Bool)) (seen : List Nat) : List ByteArray := seen.map fun k => (l.getD k default).1
theorem nodup_lt {n : Nat} {s : List Nat} (h : s.Nodup) (hl : ∀ k ∈ s, k < n) : s.length ≤ n := by
  have := h.length_le_of_subset (l₂ := List.range n) fun k hk => List.mem_range.2 (hl k hk)
  simpa using this
theorem pick_spec {fs : List Fa} {seen : List Nat} (h : seen.Nodup) (hl : ∀ k ∈ seen, k < (keysR fs).length) (ha : ∀ k, k < (keysR fs).length → k ∈ seen) : (pickK (keysR fs) seen).Nodup ∧ ∀ x, x ∈ pickK (keysR fs) seen ↔ ∃ f ∈ fs, f.person = x := by
  obtain ⟨h1, h2, _⟩ := keys_spec fs
  constructor
  · refine List.pairwise_map.2 (List.Pairwise.and_mem.1 h |>.imp ?_)
    rintro a b ⟨ma, mb, hab⟩
    have la := hl a ma
    have lb := hl b mb
    have hp := List.pairwise_iff_getElem.1 h1
    simp only [List.getD, List.getElem?_eq_getElem la, List.getElem?_eq_getElem lb, Option.getD_some]
    rcases Nat.lt_or_gt_of_ne hab with h3 | h3
    · have := hp a b (by simpa using la) (by simpa using lb) h3
      rw [List.getElem_map, List.getElem_map] at this
      exact this
    · intro e
      have := hp b a (by simpa using lb) (by simpa using la) h3
      rw [List.getElem_map, List.getElem_map] at this
      exact this e.symm
  · intro x
    rw [← h2, List.mem_map]
    unfold pickK
    rw [List.mem_map]
    constructor
    · rintro ⟨k, hk, rfl⟩
      have := hl k hk
      exact ⟨(keysR fs)[k], List.getElem_mem _, by simp [List.getD, this]⟩
    · rintro ⟨p, hp, rfl⟩
      obtain ⟨k, hk, rfl⟩ := List.mem_iff_getElem.1 hp
      exact ⟨k, ha k hk, by simp [List.getD, hk]⟩
theorem keys_succ {fs : List Fa} {k : Nat} (h : k < fs.length) : keysR (fs.take (k + 1)) = kset (keysR (fs.take k)) (fs.getD k default).person := by
  unfold keysR
  rw [List.take_succ_eq_append_getElem h, List.foldl_append]
  simp only [List.foldl_cons, List.foldl_nil, List.getD, List.getElem?_eq_getElem h, Option.getD_some]
end Go.Wage
