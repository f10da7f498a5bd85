/-
  Plain part of layer 12: the days on which a value changed.
  Conditions: those of each theorem.
-/
import Derived.Test.YtkdbijfkcjcjmaaF12B
import Derived.Test.YtkdbijfkcjcjmaaPS
namespace Go.Wage
def bndF (p n : ByteArray) (f : Fa) : List Int := if f.person = p ∧ f.name = n then [f.frm, f.to_] else []
def bndsR (fs : List Fa) (p n : ByteArray) : List Int := sI (fs.flatMap (bndF p n))
/-- the stretches between neighbours on which the two known days give different results -/
def difS (fs : List Fa) (p n : ByteArray) (b a : Int) (s : Sp) : Bool := !decide (lookR fs p n s.1 b = lookR fs p n s.1 a)
def chgL (fs : List Fa) (p n : ByteArray) (b a : Int) : List Sp := (prs (bndsR fs p n)).filter (difS fs p n b a)
def chgR (fs : List Fa) (p n : ByteArray) (b a : Int) : List Sp := if validF fs then nrm (chgL fs p n b a) else []
theorem lastH_congr {p q : Fa → Bool} : ∀ {fs : List Fa} {i : Nat}, (∀ f ∈ fs, p f = q f) → lastH p fs i = lastH q fs i
  | [], _, _ => rfl
  | f :: fs, i, h => by
    rw [lastH, lastH, lastH_congr (fs := fs) fun g hg => h g (by simp [hg]), h f (by simp)]
theorem lastH_no {p : Fa → Bool} : ∀ {fs : List Fa} {i : Nat}, (∀ f ∈ fs, p f = false) → lastH p fs i = none
  | [], _, _ => rfl
  | f :: fs, i, h => by
    rw [lastH, lastH_no (fs := fs) fun g hg => h g (by simp [hg]), h f (by simp)]; rfl
/-- neighbours of an ascending list, and what lies between -/
theorem prs_mem : ∀ {l : List Int} {s : Sp}, s ∈ prs l → l.Pairwise (· < ·) → s.1 < s.2 ∧ s.1 ∈ l ∧ s.2 ∈ l ∧ ∀ x ∈ l, x ≤ s.1 ∨ s.2 ≤ x
  | a :: b :: l, s, h, hp => by
    rw [List.pairwise_cons] at hp
    obtain ⟨h1, h2⟩ := hp
    simp only [prs, List.mem_cons] at h
    rcases h with rfl | h
    · refine ⟨h1 b (by simp), by simp, by simp, fun x hx => ?_⟩
      rcases List.mem_cons.1 hx with rfl | hx
      · exact .inl (Int.le_refl _)
      · rcases List.mem_cons.1 hx with rfl | hx
        · exact .inr (Int.le_refl _)
        · exact .inr (Int.le_of_lt ((List.pairwise_cons.1 h2).1 x hx))
    · obtain ⟨g1, g2, g3, g4⟩ := prs_mem (l := b :: l) h h2
      refine ⟨g1, by simp [List.mem_cons.1 g2], by simp [List.mem_cons.1 g3], fun x hx => ?_⟩
      rcases List.mem_cons.1 hx with rfl | hx
      · exact .inl (Int.le_of_lt (h1 s.1 g2))
      · exact g4 x hx
  | [_], _, h, _ => by simp [prs] at h
  | [], _, h, _ => by simp [prs] at h
/-- a number lies between two neighbours, or below or at and above all -/
theorem prs_cover : ∀ {l : List Int} (d : Int), l.Pairwise (· < ·) → (∃ s ∈ prs l, s.1 ≤ d ∧ d < s.2) ∨ (∀ x ∈ l, d < x) ∨ (∀ x ∈ l, x ≤ d)
  | [], _, _ => .inr (.inl fun x h => by simp at h)
  | [a], d, _ => by
    rcases Int.lt_or_le d a with h | h
    · exact .inr (.inl fun x hx => by simp at hx; subst hx; exact h)
    · exact .inr (.inr fun x hx => by simp at hx; subst hx; exact h)
  | a :: b :: l, d, hp => by
    rw [List.pairwise_cons] at hp
    obtain ⟨h1, h2⟩ := hp
    have hab := h1 b (by simp)
    rcases prs_cover (l := b :: l) d h2 with ⟨s, hs, h⟩ | h | h
    · exact .inl ⟨s, by simp [prs, hs], h⟩
    · rcases Int.lt_or_le d a with h' | h'
      · exact .inr (.inl fun x hx => by
          rcases List.mem_cons.1 hx with rfl | hx
          · exact h'
          · exact h x hx)
      · exact .inl ⟨(a, b), by simp [prs], h', h b (by simp)⟩
    · have := h b (by simp)
      exact .inr (.inr fun x hx => by
          rcases List.mem_cons.1 hx with rfl | hx
          · omega
          · exact h x hx)
theorem bnd_mem {fs : List Fa} {p n : ByteArray} {f : Fa} (hf : f ∈ fs) (h : f.person = p ∧ f.name = n) : f.frm ∈ bndsR fs p n ∧ f.to_ ∈ bndsR fs p n := by
  unfold bndsR
  rw [sI_mem, sI_mem, List.mem_flatMap, List.mem_flatMap]
  exact ⟨⟨f, hf, by simp [bndF, h]⟩, ⟨f, hf, by simp [bndF, h]⟩⟩
theorem mem_bnd {fs : List Fa} {p n : ByteArray} {x : Int} (h : x ∈ bndsR fs p n) : ∃ f ∈ fs, (f.person = p ∧ f.name = n) ∧ (x = f.frm ∨ x = f.to_) := by
  unfold bndsR at h
  rw [sI_mem, List.mem_flatMap] at h
  obtain ⟨f, hf, hx⟩ := h
  unfold bndF at hx
  by_cases hc : f.person = p ∧ f.name = n
  · rw [if_pos hc] at hx
    exact ⟨f, hf, hc, by simpa using hx⟩
  · rw [if_neg hc] at hx; cases hx
theorem hit_no {p n : ByteArray} {d t : Int} {f : Fa} (h : ¬ (f.person = p ∧ f.name = n)) : hitB p n d t f = false := by
  unfold hitB
  by_cases h1 : f.person = p
  · have : f.name ≠ n := fun e => h ⟨h1, e⟩
    simp [this]
  · simp [h1]
/-- between neighbours nothing changes -/
theorem look_const {L : List Int} {fs : List Fa} {p n : ByteArray} (hL : ∀ f ∈ fs, f.person = p ∧ f.name = n → f.frm ∈ L ∧ f.to_ ∈ L) {x y d t : Int} (hx : ∀ z ∈ L, z ≤ x ∨ y ≤ z) (h1 : x ≤ d) (h2 : d < y) : lookR fs p n d t = lookR fs p n x t := by
  unfold lookR
  rw [lastH_congr (q := hitB p n x t) fun f hf => ?_]
  by_cases hc : f.person = p ∧ f.name = n
  · obtain ⟨m1, m2⟩ := hL f hf hc
    have k1 := hx _ m1
    have k2 := hx _ m2
    have e1 : decide (f.frm ≤ d) = decide (f.frm ≤ x) := decide_eq_decide.2 (by omega)
    have e2 : decide (d < f.to_) = decide (x < f.to_) := decide_eq_decide.2 (by omega)
    unfold hitB
    rw [e1, e2]
  · rw [hit_no hc, hit_no hc]
theorem look_out {L : List Int} {fs : List Fa} {p n : ByteArray} (hL : ∀ f ∈ fs, f.person = p ∧ f.name = n → f.frm ∈ L ∧ f.to_ ∈ L) {d t : Int} (h : (∀ x ∈ L, d < x) ∨ (∀ x ∈ L, x ≤ d)) : lookR fs p n d t = (0, -1, false) := by
  unfold lookR
  rw [lastH_no fun f hf => ?_]
  · rfl
  by_cases hc : f.person = p ∧ f.name = n
  · obtain ⟨m1, m2⟩ := hL f hf hc
    unfold hitB
    rcases h with h | h
    · have := h _ m1
      rw [decide_eq_false (show ¬ f.frm ≤ d by omega)]; simp
    · have := h _ m2
      rw [decide_eq_false (show ¬ d < f.to_ by omega)]; simp
  · exact hit_no hc
theorem chgL_in {fs : List Fa} {p n : ByteArray} {b a d : Int} : inS (chgL fs p n b a) d ↔ lookR fs p n d b ≠ lookR fs p n d a := by
  have hL : ∀ f ∈ fs, f.person = p ∧ f.name = n → f.frm ∈ bndsR fs p n ∧ f.to_ ∈ bndsR fs p n := fun f hf h => bnd_mem hf h
  have hA : (bndsR fs p n).Pairwise (· < ·) := sI_asc _
  constructor
  · rintro ⟨s, hs, h1, h2⟩
    obtain ⟨hs1, hs2⟩ := List.mem_filter.1 hs
    obtain ⟨_, _, _, hx⟩ := prs_mem hs1 hA
    rw [look_const hL hx h1 h2, look_const hL hx h1 h2]
    simpa [difS] using hs2
  · intro h
    rcases prs_cover d hA with ⟨s, hs, h1, h2⟩ | h'
    · obtain ⟨_, _, _, hx⟩ := prs_mem hs hA
      rw [look_const hL hx h1 h2, look_const hL hx h1 h2] at h
      exact ⟨s, List.mem_filter.2 ⟨hs, by simpa [difS] using h⟩, h1, h2⟩
    · rw [look_out hL h', look_out hL h'] at h
      exact absurd rfl h
theorem well_days {f : Fa} (h : wellB f = true) : 0 ≤ f.frm ∧ f.frm < f.to_ ∧ f.to_ ≤ 36525 := by
  unfold wellB at h
  simp only [Bool.and_eq_true, decide_eq_true_eq] at h
  omega
theorem bnd_days {fs : List Fa} (hv : validF fs = true) {p n : ByteArray} {x : Int} (h : x ∈ bndsR fs p n) : 0 ≤ x ∧ x ≤ 36525 := by
  obtain ⟨f, hf, _, hx⟩ := mem_bnd h
  have := well_days (((valid_iff fs).1 hv).2.1 f hf)
  omega
theorem chgL_prp {fs : List Fa} (hv : validF fs = true) {p n : ByteArray} {b a : Int} {s : Sp} (h : s ∈ chgL fs p n b a) : prp s = true := by
  obtain ⟨h1, _⟩ := List.mem_filter.1 h
  obtain ⟨g1, g2, g3, _⟩ := prs_mem h1 (sI_asc _)
  have := bnd_days hv g2
  have := bnd_days hv g3
  unfold prp
  simp only [Bool.and_eq_true, decide_eq_true_eq]
  omega
theorem chg_in {fs : List Fa} (hv : validF fs = true) {p n : ByteArray} {b a d : Int} : inS (chgR fs p n b a) d ↔ lookR fs p n d b ≠ lookR fs p n d a := by
  unfold chgR
  rw [if_pos hv, (nrm_spec _).2, List.filter_eq_self.2 fun s hs => chgL_prp hv hs, chgL_in]
theorem look_days {fs : List Fa} (hv : validF fs = true) {p n : ByteArray} {d b a : Int} (h : lookR fs p n d b ≠ lookR fs p n d a) : 0 ≤ d ∧ d ≤ 36524 := by
  have := (chgL_in (fs := fs) (p := p) (n := n) (b := b) (a := a) (d := d)).2 h
  obtain ⟨s, hs, h1, h2⟩ := this
  obtain ⟨hs1, _⟩ := List.mem_filter.1 hs
  obtain ⟨g1, g2, g3, _⟩ := prs_mem hs1 (sI_asc _)
  have := bnd_days hv g2
  have := bnd_days hv g3
  omega
theorem ins_len : ∀ (l : List Sp) (a b : Int), (ins a b l).length ≤ l.length + 1
  | [], _, _ => by simp [ins]
  | s :: l, a, b => by
    have h1 := ins_len l a b
    have h2 := ins_len l (min a s.1) (max b s.2)
    unfold ins
    split
    · simp
    · split
      · simp only [List.length_cons]; omega
      · simp only [List.length_cons]; omega
theorem nrm_len : ∀ l : List Sp, (nrm l).length ≤ l.length
  | [] => by simp [nrm]
  | s :: l => by
    have h1 := nrm_len l
    have h2 := ins_len (nrm l) s.1 s.2
    unfold nrm
    split <;> simp only [List.length_cons] <;> omega
theorem compact_len (zs : List Int) : (sI zs).length ≤ zs.length := by
  have := List.length_filter_le (Go.Lib.keeps (zs.mergeSort fun x y => decide (x ≤ y)).toArray) (List.range (zs.mergeSort fun x y => decide (x ≤ y)).length)
  rw [List.length_range, List.length_mergeSort] at this
  unfold sI Go.Lib.compact Go.Lib.compactUpTo
  rw [List.length_map]
  rw [List.length_mergeSort]
  exact this
theorem bnds_len (fs : List Fa) (p n : ByteArray) : (bndsR fs p n).length ≤ 2 * fs.length := by
  refine Nat.le_trans (compact_len _) ?_
  induction fs with
  | nil => simp
  | cons f fs ih =>
    rw [List.flatMap_cons, List.length_append, List.length_cons]
    have : (bndF p n f).length ≤ 2 := by unfold bndF; split <;> simp
    omega
theorem chg_len {fs : List Fa} {p n : ByteArray} {b a : Int} (h : fs.length ≤ 420) : (chgR fs p n b a).length ≤ 842 := by
  unfold chgR
  split
  · have h1 := nrm_len (chgL fs p n b a)
    have h2 : (chgL fs p n b a).length ≤ (prs (bndsR fs p n)).length := List.length_filter_le _ _
    rw [prs_len] at h2
    have h3 := bnds_len fs p n
    omega
  · simp
theorem chg_sym (fs : List Fa) (p n : ByteArray) (b a : Int) : chgR fs p n b a = chgR fs p n a b := by
  unfold chgR chgL
  congr 2
  refine List.filter_congr fun s _ => ?_
  unfold difS
  rw [Bool.eq_iff_iff]
  simp only [Bool.not_eq_true', decide_eq_false_iff_not]
  exact ⟨fun h e => h e.symm, fun h e => h e.symm⟩
/-- spans within bounds that hold of their members -/
theorem VF.mems {lb : Int} : ∀ {l : List Sp} {s : Sp}, VF lb l → s ∈ l → s.1 < s.2
  | t :: l, s, ⟨_, h2, h3⟩, hs => by
    rcases List.mem_cons.1 hs with rfl | hs
    · exact h2
    · exact VF.mems h3 hs
theorem chg_prp {fs : List Fa} {p n : ByteArray} {b a : Int} {s : Sp} (hs : s ∈ chgR fs p n b a) : prp s = true := by
  by_cases hv : validF fs = true
  · have hV : VF (-1152921504606846977) (chgR fs p n b a) := by unfold chgR; rw [if_pos hv]; exact (nrm_spec _).1
    have hlt := hV.mems hs
    have h1 := look_days hv ((chg_in hv (p := p) (n := n) (b := b) (a := a) (d := s.1)).1 ⟨s, hs, by omega, hlt⟩)
    have h2 := look_days hv ((chg_in hv (p := p) (n := n) (b := b) (a := a) (d := s.2 - 1)).1 ⟨s, hs, by omega, by omega⟩)
    unfold prp
    simp only [Bool.and_eq_true, decide_eq_true_eq]
    omega
  · unfold chgR at hs
    rw [if_neg hv] at hs
    cases hs
theorem chg_idem (fs : List Fa) (p n : ByteArray) (b a : Int) : nrm (chgR fs p n b a) = chgR fs p n b a := by
  by_cases hv : validF fs = true
  · have hV : VF (-1152921504606846977) (chgR fs p n b a) := by unfold chgR; rw [if_pos hv]; exact (nrm_spec _).1
    exact (nrm_uniq hV fun x => by rw [List.filter_eq_self.2 fun s hs => chg_prp hs]).symm
  · unfold chgR; rw [if_neg hv]; rfl
def hasB (l : List Sp) (n : Int) : Bool := l.any fun s => prp s && decide (s.1 ≤ n) && decide (n < s.2)
theorem chg_has (fs : List Fa) (p n : ByteArray) (b a d : Int) : hasB (chgR fs p n b a) d = (!decide (valR fs p n d b = valR fs p n d a) && decide (0 ≤ d) && decide (d ≤ 36524)) := by
  by_cases hv : validF fs = true
  · unfold valR
    rw [if_pos hv, if_pos hv, Bool.eq_iff_iff]
    have h := chg_in hv (p := p) (n := n) (b := b) (a := a) (d := d)
    unfold hasB
    rw [List.any_eq_true]
    simp only [Bool.and_eq_true, decide_eq_true_eq, Bool.not_eq_true', decide_eq_false_iff_not]
    constructor
    · rintro ⟨s, hs, ⟨_, h2⟩, h3⟩
      have h4 := h.1 ⟨s, hs, h2, h3⟩
      have := look_days hv h4
      exact ⟨⟨h4, this.1⟩, this.2⟩
    · rintro ⟨⟨h1, _⟩, _⟩
      obtain ⟨s, hs, h2, h3⟩ := h.2 h1
      exact ⟨s, hs, ⟨chg_prp hs, h2⟩, h3⟩
  · have e : chgR fs p n b a = [] := by unfold chgR; rw [if_neg hv]
    unfold valR
    rw [if_neg hv, if_neg hv, e]; simp [hasB]
/-! the reference's list -/
def stpC (o : List Sp) (x to_ : Int) : List Sp := match o.getLast? with
  | some t => if t.2 = x then o.set (o.length - 1) (t.1, to_) else o ++ [(x, to_)]
  | none => o ++ [(x, to_)]
def c12 (df : Int → Bool) : List Int → List Sp → List Sp
  | [], o => o
  | x :: l, o => if x ≤ 36524 then c12 df l (if df x = true then stpC o x (l.headD 36525) else o) else o
theorem VF_snoc {s : Sp} : ∀ {o : List Sp} {lb : Int}, VF lb o → (∀ t, o.getLast? = some t → t.2 < s.1) → (o = [] → lb < s.1) → s.1 < s.2 → VF lb (o ++ [s])
  | [], lb, _, _, h2, h3 => ⟨h2 rfl, h3, trivial⟩
  | q :: o, lb, ⟨g1, g2, g3⟩, h1, _, h3 => by
    refine ⟨g1, g2, VF_snoc g3 (fun t ht => h1 t ?_) (fun he => h1 q ?_) h3⟩
    · cases o with
      | nil => simp at ht
      | cons _ _ => simpa [List.getLast?_cons_cons] using ht
    · subst he; rfl
theorem VF_init {s : Sp} : ∀ {o : List Sp} {lb : Int}, VF lb (o ++ [s]) → VF lb o ∧ (∀ t, o.getLast? = some t → t.2 < s.1) ∧ (o = [] → lb < s.1) ∧ s.1 < s.2
  | [], lb, ⟨h1, h2, _⟩ => ⟨trivial, by simp, fun _ => h1, h2⟩
  | q :: o, lb, ⟨g1, g2, g3⟩ => by
    obtain ⟨h1, h2, h3, h4⟩ := VF_init g3
    refine ⟨⟨g1, g2, h1⟩, fun t ht => ?_, by simp, h4⟩
    cases o with
    | nil =>
      simp at ht
      subst ht
      exact h3 rfl
    | cons _ _ => exact h2 t (by simpa [List.getLast?_cons_cons] using ht)
theorem inS_app {a b : List Sp} {x : Int} : inS (a ++ b) x ↔ inS a x ∨ inS b x := by
  unfold inS
  simp only [List.mem_append]
  constructor
  · rintro ⟨s, h | h, h'⟩
    · exact .inl ⟨s, h, h'⟩
    · exact .inr ⟨s, h, h'⟩
  · rintro (⟨s, h, h'⟩ | ⟨s, h, h'⟩)
    · exact ⟨s, .inl h, h'⟩
    · exact ⟨s, .inr h, h'⟩
theorem stpC_spec {o : List Sp} {x y : Int} (hv : VF (-1) o) (hl : ∀ t, o.getLast? = some t → t.2 ≤ x) (hx : 0 ≤ x) (hxy : x < y) :
    VF (-1) (stpC o x y) ∧ (∀ t, (stpC o x y).getLast? = some t → t.2 ≤ y) ∧ ∀ d, inS (stpC o x y) d ↔ inS o d ∨ (x ≤ d ∧ d < y) := by
  have h1 : ∀ d, inS [(x, y)] d ↔ x ≤ d ∧ d < y := fun d => by simp [inS]
  unfold stpC
  cases ho : o.getLast? with
  | none =>
    have : o = [] := List.getLast?_eq_none_iff.1 ho
    subst this
    exact ⟨⟨by simp only; omega, hxy, trivial⟩, by simp, fun d => by rw [inS_app, h1]⟩
  | some t =>
    dsimp only
    have ht := hl t ho
    obtain ⟨o', rfl⟩ : ∃ o', o = o' ++ [t] := by
      rcases List.eq_nil_or_concat o with rfl | ⟨o', q, rfl⟩
      · simp at ho
      · simp at ho; subst ho; exact ⟨o', by simp⟩
    by_cases hc : t.2 = x
    · rw [if_pos hc]
      have e : (o' ++ [t]).set ((o' ++ [t]).length - 1) (t.1, y) = o' ++ [(t.1, y)] := by simp
      rw [e]
      obtain ⟨v1, v2, v3, v4⟩ := VF_init hv
      refine ⟨VF_snoc v1 v2 v3 (by simp only; omega), fun q hq => ?_, fun d => ?_⟩
      · simp at hq; subst hq; exact Int.le_refl _
      · rw [inS_app, inS_app]
        have e1 : inS [(t.1, y)] d ↔ t.1 ≤ d ∧ d < y := by simp [inS]
        have e2 : inS [t] d ↔ t.1 ≤ d ∧ d < t.2 := by simp [inS]
        rw [e1, e2, or_assoc]
        have : (t.1 ≤ d ∧ d < y) ↔ (t.1 ≤ d ∧ d < t.2 ∨ x ≤ d ∧ d < y) := by omega
        rw [this]
    · rw [if_neg hc]
      refine ⟨VF_snoc hv (fun q hq => ?_) (by simp) hxy, fun q hq => ?_, fun d => by rw [inS_app, h1]⟩
      · rw [ho] at hq; cases hq; simp only; omega
      · simp at hq; subst hq; exact Int.le_refl _
theorem c12_spec (D : Int → Bool) : ∀ (l : List Int) (o : List Sp) (x0 : Int), l.Pairwise (· < ·) → (∀ x ∈ l, 0 ≤ x) → (∀ x, l.head? = some x → x = x0) → (l = [] → 36525 ≤ x0) → (∀ x ∈ l, x ≤ 36525) →
    VF (-1) o → (∀ t, o.getLast? = some t → t.2 ≤ x0) → (∀ s ∈ prs l, ∀ d, s.1 ≤ d → d < s.2 → D d = D s.1) → (∀ x, l.getLast? = some x → ∀ d, x ≤ d → d ≤ 36524 → D d = D x) →
    VF (-1) (c12 D l o) ∧ ∀ d, inS (c12 D l o) d ↔ inS o d ∨ (x0 ≤ d ∧ d ≤ 36524 ∧ D d = true)
  | [], o, x0, _, _, _, h0, _, hv, _, _, _ => ⟨hv, fun d => by
      have := h0 rfl
      constructor
      · exact .inl
      · rintro (h | h)
        · exact h
        · omega⟩
  | x :: l, o, x0, hp, hn, hh, _, hm, hv, hl, hc, hz => by
    have e := hh x rfl
    subst e
    rw [List.pairwise_cons] at hp
    obtain ⟨hp1, hp2⟩ := hp
    have hx0 := hn x (by simp)
    rw [c12]
    by_cases hx : x ≤ 36524
    · rw [if_pos hx]
      have hto : x < l.headD 36525 ∧ l.headD 36525 ≤ 36525 := by
        cases l with
        | nil => simp only [List.headD_nil]; omega
        | cons y l => simp only [List.headD_cons]; exact ⟨hp1 y (by simp), hm y (by simp)⟩
      have hD : ∀ d, x ≤ d → d < l.headD 36525 → D d = D x := by
        cases l with
        | nil => simp only [List.headD_nil]; exact fun d h1 h2 => hz x rfl d h1 (by omega)
        | cons y l => simp only [List.headD_cons]; exact fun d h1 h2 => hc (x, y) (by simp [prs]) d h1 h2
      have hpr : ∀ s ∈ prs l, ∀ d, s.1 ≤ d → d < s.2 → D d = D s.1 := fun s hs => hc s (by
        cases l with
        | nil => simp [prs] at hs
        | cons y l => simp only [prs, List.mem_cons]; exact .inr hs)
      have hzz : ∀ y, l.getLast? = some y → ∀ d, y ≤ d → d ≤ 36524 → D d = D y := fun y hy => hz y (by
        cases l with
        | nil => simp at hy
        | cons q l => simpa [List.getLast?_cons_cons] using hy)
      have hhd : ∀ y, l.head? = some y → y = l.headD 36525 := fun y hy => by
        cases l with
        | nil => simp at hy
        | cons q l => simp at hy ⊢; exact hy.symm
      have hem : l = [] → 36525 ≤ l.headD 36525 := fun e => by subst e; simp
      by_cases hd : D x = true
      · rw [if_pos hd]
        obtain ⟨s1, s2, s3⟩ := stpC_spec hv hl hx0 hto.1
        obtain ⟨r1, r2⟩ := c12_spec D l (stpC o x (l.headD 36525)) (l.headD 36525) hp2 (fun y hy => hn y (by simp [hy])) hhd hem (fun y hy => hm y (by simp [hy])) s1 s2 hpr hzz
        refine ⟨r1, fun d => ?_⟩
        rw [r2, s3, or_assoc]
        constructor
        · rintro (h | h | h)
          · exact .inl h
          · exact .inr ⟨h.1, by omega, by rw [hD d h.1 h.2]; exact hd⟩
          · exact .inr ⟨by omega, h.2⟩
        · rintro (h | h)
          · exact .inl h
          · by_cases hlt : d < l.headD 36525
            · exact .inr (.inl ⟨h.1, hlt⟩)
            · exact .inr (.inr ⟨by omega, h.2⟩)
      · rw [if_neg hd]
        obtain ⟨r1, r2⟩ := c12_spec D l o (l.headD 36525) hp2 (fun y hy => hn y (by simp [hy])) hhd hem (fun y hy => hm y (by simp [hy])) hv (fun t ht => by have := hl t ht; omega) hpr hzz
        refine ⟨r1, fun d => ?_⟩
        rw [r2]
        constructor
        · rintro (h | h)
          · exact .inl h
          · exact .inr ⟨by omega, h.2⟩
        · rintro (h | h)
          · exact .inl h
          · by_cases hlt : d < l.headD 36525
            · rw [hD d h.1 hlt] at h; exact absurd h.2.2 hd
            · exact .inr ⟨by omega, h.2⟩
    · rw [if_neg hx]
      exact ⟨hv, fun d => ⟨.inl, fun h => h.resolve_right (by omega)⟩⟩
/-- the reference's bounds: day 0 and the bounds -/
def bnds0 (fs : List Fa) (p n : ByteArray) : List Int := sI (0 :: fs.flatMap (bndF p n))
theorem chg_ref {fs : List Fa} (hv : validF fs = true) (p n : ByteArray) (b a : Int) : c12 (fun d => !decide (lookR fs p n d b = lookR fs p n d a)) (bnds0 fs p n) [] = chgR fs p n b a := by
  have hA : (bnds0 fs p n).Pairwise (· < ·) := sI_asc _
  have hL : ∀ f ∈ fs, f.person = p ∧ f.name = n → f.frm ∈ bnds0 fs p n ∧ f.to_ ∈ bnds0 fs p n := fun f hf h => by
    have := bnd_mem hf h
    unfold bndsR at this
    unfold bnds0
    rw [sI_mem, sI_mem] at *
    exact ⟨List.mem_cons_of_mem _ this.1, List.mem_cons_of_mem _ this.2⟩
  have hm : ∀ x ∈ bnds0 fs p n, 0 ≤ x ∧ x ≤ 36525 := fun x hx => by
    unfold bnds0 at hx
    rw [sI_mem, List.mem_cons] at hx
    rcases hx with rfl | hx
    · omega
    · exact bnd_days hv (x := x) (p := p) (n := n) (by unfold bndsR; rw [sI_mem]; exact hx)
  have h0 : (0 : Int) ∈ bnds0 fs p n := by unfold bnds0; rw [sI_mem]; simp
  have hhd : ∀ x, (bnds0 fs p n).head? = some x → x = 0 := fun x hx => by
    cases hb : bnds0 fs p n with
    | nil => rw [hb] at hx; cases hx
    | cons y l =>
      rw [hb] at hx
      simp at hx
      subst hx
      rw [hb] at hA h0
      have h2 := (hm y (by rw [hb]; simp)).1
      rcases List.mem_cons.1 h0 with h | h
      · exact h.symm
      · have := (List.pairwise_cons.1 hA).1 _ h; omega
  obtain ⟨r1, r2⟩ := c12_spec (fun d => !decide (lookR fs p n d b = lookR fs p n d a)) (bnds0 fs p n) [] 0 hA (fun x hx => (hm x hx).1) hhd (fun e => by rw [e] at h0; cases h0) (fun x hx => (hm x hx).2) trivial (by simp)
    (fun s hs d h1 h2 => by
      obtain ⟨_, _, _, hx⟩ := prs_mem hs hA
      rw [look_const hL hx h1 h2, look_const hL hx h1 h2])
    (fun x hx d h1 h2 => by
      have hlast : ∀ z ∈ bnds0 fs p n, z ≤ x := fun z hz => by
        obtain ⟨l', e⟩ : ∃ l', bnds0 fs p n = l' ++ [x] := by
          rcases List.eq_nil_or_concat (bnds0 fs p n) with e | ⟨o', q, e⟩
          · rw [e] at hx; cases hx
          · rw [e] at hx; simp at hx; subst hx; exact ⟨o', by simp [e]⟩
        rw [e] at hz hA
        rcases List.mem_append.1 hz with h | h
        · exact Int.le_of_lt ((List.pairwise_append.1 hA).2.2 z h x (by simp))
        · simp at h; omega
      rw [look_out hL (.inr fun z hz => Int.le_trans (hlast z hz) h1), look_out hL (.inr fun z hz => Int.le_trans (hlast z hz) h1), look_out hL (.inr hlast), look_out hL (.inr hlast)])
  have hV : VF (-1152921504606846977) (chgR fs p n b a) := by unfold chgR; rw [if_pos hv]; exact (nrm_spec _).1
  refine r1.uniq hV fun d => ?_
  rw [r2, chg_in hv]
  simp only [Bool.not_eq_true', decide_eq_false_iff_not]
  constructor
  · rintro (h | h)
    · exact absurd h inS_nil
    · exact h.2.2
  · intro h
    have := look_days hv h
    exact .inr ⟨this.1, this.2, h⟩
end Go.Wage
