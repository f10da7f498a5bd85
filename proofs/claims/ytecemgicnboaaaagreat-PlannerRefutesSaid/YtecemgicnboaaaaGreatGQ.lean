/-
  Plain part of chapter 20: the refutation that the search writes.
  Conditions: those of each theorem.
-/
import Derived.Test.YtecemgicnboaaaaGreatGP
namespace Go.Wage
/-- the denial of the first duties' assignments -/
def noLo : Nat → List Int → List Lt
  | _, [] => []
  | o, w :: f => ⟨o, w, false⟩ :: noLo (o + 1) f
abbrev noL (f : List Int) : List Lt := noLo 0 f
theorem noLo_snoc (w : Int) : ∀ (f : List Int) (o : Nat), noLo o (f ++ [w]) = noLo o f ++ [⟨((o + f.length : Nat) : Int), w, false⟩]
  | [], o => by simp [noLo]
  | x :: f, o => by
    rw [List.cons_append, noLo, noLo, noLo_snoc w f (o + 1), List.cons_append, List.length_cons]
    congr 4
    omega
theorem noL_snoc (f : List Int) (w : Int) : noL (f ++ [w]) = noL f ++ [⟨(f.length : Int), w, false⟩] := by
  rw [noL, noLo_snoc, Nat.zero_add]
theorem noLo_len : ∀ (f : List Int) (o : Nat), (noLo o f).length = f.length
  | [], _ => rfl
  | x :: f, o => by rw [noLo, List.length_cons, noLo_len f, List.length_cons]
theorem noLo_mem {x : Lt} : ∀ {f : List Int} {o : Nat}, x ∈ noLo o f → ∃ i, i < f.length ∧ x = ⟨((o + i : Nat) : Int), f.getD i default, false⟩
  | [], _, h => by cases h
  | w :: f, o, h => by
    rw [noLo, List.mem_cons] at h
    rcases h with rfl | h
    · exact ⟨0, by simp, by simp⟩
    · obtain ⟨i, h1, h2⟩ := noLo_mem h
      refine ⟨i + 1, by simp; omega, ?_⟩
      rw [h2]
      simp
      omega
def yesL (d : Nat) (n : Nat) : List Lt := (List.range n).map fun w : Nat => (⟨d, w, true⟩ : Lt)
structure RS where
  fuel : Int
  log : List Sg
def addP (s : RS) (x : Sg) : RS × Int × Int := if 20000 ≤ s.log.length then (s, 0, 201) else (⟨s.fuel, s.log ++ [x]⟩, (s.log.length : Int), 0)
/-- the longer prefixes, one after the other; the steps' numbers are kept -/
def extR (F : Nat → RS → RS × Int × Int) : Nat → Nat → List Int → RS → (RS × List Int) × Int
  | 0, _, frm, s => ((s, frm), 0)
  | k + 1, w, frm, s => if (F w s).2.2 = 0 then extR F k (w + 1) (frm ++ [(F w s).2.1]) (F w s).1 else (((F w s).1, frm), (F w s).2.2)
def refP (p : Pl) (b : Int) : Nat → List Int → Int → RS → RS × Int × Int
  | 0, pre, c, s => if s.fuel - 1 < 0 then (⟨s.fuel - 1, s.log⟩, 0, 201) else
      if decide (0 < pre.length) && decide (b ≤ c + lstP p pre.length) then addP ⟨s.fuel - 1, s.log⟩ ⟨noL pre, 4, []⟩ else
      addP ⟨s.fuel - 1, s.log⟩ ⟨noL pre, 3, []⟩
  | m + 1, pre, c, s => if s.fuel - 1 < 0 then (⟨s.fuel - 1, s.log⟩, 0, 201) else
      if decide (0 < pre.length) && decide (b ≤ c + lstP p pre.length) then addP ⟨s.fuel - 1, s.log⟩ ⟨noL pre, 4, []⟩ else
      if cleanB p pre = false then addP ⟨s.fuel - 1, s.log⟩ ⟨noL pre, 3, []⟩ else
      let r := extR (fun (w : Nat) s => refP p b m (pre ++ [(w : Int)]) (c + wageP p w * minD (p.duties.getD pre.length default)) s) p.workers.length 0 [] ⟨s.fuel - 1, s.log⟩
      if r.2 ≠ 0 then (r.1.1, 0, r.2) else addP r.1.1 ⟨noL pre, 5, r.1.2 ++ [(pre.length : Int)]⟩
/-- some worker takes each duty -/
def someL (p : Pl) (d : Nat) : List Sg := (List.range d).map fun d => ⟨yesL d p.workers.length, 1, []⟩
theorem someL_snoc (p : Pl) (d : Nat) : someL p (d + 1) = someL p d ++ [⟨yesL d p.workers.length, 1, []⟩] := by
  unfold someL
  rw [List.range_succ, List.map_append]
  rfl
theorem yes_snoc (d : Nat) (w : Nat) : yesL d (w + 1) = yesL d w ++ [⟨(d : Int), (w : Int), true⟩] := by
  unfold yesL
  rw [List.range_succ, List.map_append]
  rfl
structure OkR (s : RS) : Prop where
  f : 0 ≤ s.fuel ∧ s.fuel ≤ 100000
  l : s.log.length ≤ 20000
theorem addP_ok {s : RS} {x : Sg} (h : OkR s) (h0 : (addP s x).2.2 = 0) : OkR (addP s x).1 := by
  unfold addP at h0 ⊢
  split at h0
  · cases h0
  · rename_i hn
    rw [if_neg hn]
    exact ⟨h.f, by simp; omega⟩
theorem extR_ok {F : Nat → RS → RS × Int × Int} : ∀ (k w : Nat) (frm : List Int) (s : RS), (∀ v s, w ≤ v → v < w + k → OkR s → (F v s).2.2 = 0 → OkR (F v s).1) → OkR s → (extR F k w frm s).2 = 0 → OkR (extR F k w frm s).1.1 ∧ (extR F k w frm s).1.2.length = frm.length + k
  | 0, _, _, _, _, hs, _ => ⟨hs, rfl⟩
  | k + 1, w, frm, s, h, hs, h0 => by
    rw [extR] at h0 ⊢
    by_cases hf : (F w s).2.2 = 0
    · rw [if_pos hf] at h0 ⊢
      have := extR_ok k (w + 1) (frm ++ [(F w s).2.1]) (F w s).1 (fun v s h1 h2 => h v s (by omega) (by omega)) (h w s (Nat.le_refl _) (by omega) hs hf) h0
      refine ⟨this.1, ?_⟩
      rw [this.2]
      simp
      omega
    · rw [if_neg hf] at h0
      exact absurd h0 hf
def stpR (p : Pl) (b : Int) (k : Nat) (pre : List Int) (c : Int) : Nat → RS → RS × Int × Int := fun (w : Nat) s => refP p b k (pre ++ [(w : Int)]) (c + wageP p w * minD (p.duties.getD pre.length default)) s
def rfStP (p : Pl) (b : Int) : Nat → List Int → Int → RS → RS × Int × Int
  | 0, pre, _, s => addP s ⟨noL pre, 3, []⟩
  | m + 1, pre, c, s => if (extR (stpR p b m pre c) p.workers.length 0 [] s).2 ≠ 0 then ((extR (stpR p b m pre c) p.workers.length 0 [] s).1.1, 0, (extR (stpR p b m pre c) p.workers.length 0 [] s).2) else addP (extR (stpR p b m pre c) p.workers.length 0 [] s).1.1 ⟨noL pre, 5, (extR (stpR p b m pre c) p.workers.length 0 [] s).1.2 ++ [(pre.length : Int)]⟩
theorem refP_eq (p : Pl) (b : Int) (m : Nat) (pre : List Int) (c : Int) (s : RS) : refP p b m pre c s = if s.fuel - 1 < 0 then (⟨s.fuel - 1, s.log⟩, 0, 201) else
    if decide (0 < pre.length) && decide (b ≤ c + lstP p pre.length) then addP ⟨s.fuel - 1, s.log⟩ ⟨noL pre, 4, []⟩ else
    if cleanB p pre = false then addP ⟨s.fuel - 1, s.log⟩ ⟨noL pre, 3, []⟩ else rfStP p b m pre c ⟨s.fuel - 1, s.log⟩ := by
  cases m with
  | zero =>
    rw [refP, rfStP]
    by_cases h : cleanB p pre = false
    · rw [if_pos h]
    · rw [if_neg h]
  | succ m => rw [refP]; rfl
theorem refP_ok (p : Pl) (b : Int) : ∀ (m : Nat) (pre : List Int) (c : Int) (s : RS), OkR s → (refP p b m pre c s).2.2 = 0 → OkR (refP p b m pre c s).1
  | m, pre, c, s, hs, h0 => by
    have hf := hs.f
    rw [refP_eq] at h0 ⊢
    by_cases h1 : s.fuel - 1 < 0
    · rw [if_pos h1] at h0
      cases h0
    · rw [if_neg h1] at h0 ⊢
      have hs' : OkR ⟨s.fuel - 1, s.log⟩ := ⟨⟨by simp only; omega, by simp only; omega⟩, hs.l⟩
      by_cases h2 : (decide (0 < pre.length) && decide (b ≤ c + lstP p pre.length)) = true
      · rw [if_pos h2] at h0 ⊢
        exact addP_ok hs' h0
      · rw [if_neg h2] at h0 ⊢
        by_cases h3 : cleanB p pre = false
        · rw [if_pos h3] at h0 ⊢
          exact addP_ok hs' h0
        · rw [if_neg h3] at h0 ⊢
          cases m with
          | zero => exact addP_ok hs' h0
          | succ m =>
            rw [rfStP] at h0 ⊢
            by_cases h4 : (extR (stpR p b m pre c) p.workers.length 0 [] ⟨s.fuel - 1, s.log⟩).2 = 0
            · rw [if_neg (fun h => h h4)] at h0 ⊢
              have := extR_ok p.workers.length 0 [] ⟨s.fuel - 1, s.log⟩ (F := stpR p b m pre c) (fun v s _ _ hs h => refP_ok p b m _ _ s hs h) hs' h4
              exact addP_ok this.1 h0
            · rw [if_pos h4] at h0
              exact absurd h0 h4
/-- every clean complete roster costs as much as the best one -/
def LfP (p : Pl) (b : Int) : Nat → List Int → Int → Prop
  | 0, pre, c => (0 < pre.length ∧ b ≤ c + lstP p pre.length) ∨ cleanB p pre = false
  | m + 1, pre, c => cleanB p pre = true → ∀ w : Nat, w < p.workers.length → LfP p b m (pre ++ [(w : Int)]) (c + wageP p w * minD (p.duties.getD pre.length default))
theorem LfP_of {p : Pl} {b : Int} (hb : ∀ ro : List Int, ro ∈ comp p.workers.length p.duties.length [] → workB p ro = true → b ≤ costP p ro p.duties) (hn : 0 < p.duties.length) : ∀ (m : Nat) (pre : List Int) (c : Int), PreOk p m pre → c = costP p pre (p.duties.take pre.length) → (∀ q (x : Nat), pre = q ++ [(x : Int)] → x < p.workers.length ∧ okPre p q) → LfP p b m pre c
  | m, pre, c, h, hc, hq => by
    have hlast : cleanB p pre = true → okPre p pre := fun hcl => by
      rcases List.eq_nil_or_concat pre with rfl | ⟨q, x, rfl⟩
      · intro w _
        have : mineR [] (w : Int) = [] := rfl
        rw [this, violW_nil]
        simp [trip]
      · rw [List.concat_eq_append] at *
        have hx := h.w x (by simp)
        obtain ⟨y, rfl⟩ := Int.eq_ofNat_of_zero_le hx.1
        have := hq q y rfl
        exact clean_ok this.2 hcl
    have hl := h.l
    cases m with
    | zero =>
      rw [LfP]
      cases hcl : cleanB p pre with
      | false => exact .inr rfl
      | true =>
        left
        have hz : lstP p pre.length = 0 := by unfold lstP; rw [List.drop_eq_nil_of_le (by omega)]; rfl
        have e : p.duties.take pre.length = p.duties := List.take_of_length_le (by omega)
        have hm := comp_all (W := p.workers.length) (e := pre) (pre := []) h.w
        rw [List.nil_append, show pre.length = p.duties.length by omega] at hm
        have := hb pre hm (by
          unfold workB
          rw [List.isEmpty_iff, badP_nil]
          exact hlast hcl)
        rw [e] at hc
        refine ⟨by omega, ?_⟩
        omega
    | succ m =>
      rw [LfP]
      intro hcl w hw
      have hlt : pre.length < p.duties.length := by omega
      refine LfP_of hb hn m _ _ ⟨by simp; omega, fun x hx => ?_⟩ ?_ (fun q x e => ?_)
      · rcases List.mem_append.1 hx with hx | hx
        · exact h.w x hx
        · rw [List.mem_singleton] at hx; omega
      · rw [List.length_append, List.length_cons, List.length_nil, List.take_succ_eq_append_getElem hlt, costP_app p (by rw [List.length_take]; omega), ← hc]
        have e5 : p.duties.getD pre.length default = p.duties[pre.length] := by simp [List.getD, hlt]
        have e6 : costP p [(w : Int)] [p.duties[pre.length]] = wageP p w * minD p.duties[pre.length] := by simp [costP, wageP, minD]
        rw [e5, e6]
      · have e2 := List.append_inj' e rfl
        have : x = w := by have := e2.2; simp only [List.cons.injEq, and_true] at this; omega
        rw [← e2.1, this]
        exact ⟨by omega, hlast hcl⟩
/-- the least so far costs no more than what was seen -/
theorem fold_least {p : Pl} : ∀ (l : List (List Int)) (s : BS), (s.found = true → (l.foldl (upd p) s).found = true ∧ (l.foldl (upd p) s).cost ≤ s.cost) ∧ ∀ ro ∈ l, workB p ro = true → (l.foldl (upd p) s).found = true ∧ (l.foldl (upd p) s).cost ≤ costP p ro p.duties
  | [], s => ⟨fun h => ⟨h, Int.le_refl _⟩, by simp⟩
  | x :: l, s => by
    rw [List.foldl_cons]
    have ih := fold_least (p := p) l (upd p s x)
    have hu : s.found = true → (upd p s x).found = true ∧ (upd p s x).cost ≤ s.cost := fun h => by
      unfold upd
      split
      · rename_i hh
        rw [h] at hh
        simp only [Bool.not_true, Bool.false_or, Bool.and_eq_true, decide_eq_true_eq] at hh
        exact ⟨rfl, by simp only; omega⟩
      · exact ⟨h, Int.le_refl _⟩
    have hx : workB p x = true → (upd p s x).found = true ∧ (upd p s x).cost ≤ costP p x p.duties := fun h => by
      unfold upd
      split
      · exact ⟨rfl, Int.le_refl _⟩
      · rename_i hh
        rw [h, Bool.true_and, Bool.or_eq_true, Bool.not_eq_true', decide_eq_true_eq, not_or] at hh
        exact ⟨by cases hf : s.found <;> simp_all, by omega⟩
    refine ⟨fun h => ?_, fun ro hr hw => ?_⟩
    · have h1 := hu h
      have h2 := ih.1 h1.1
      exact ⟨h2.1, by omega⟩
    · rcases List.mem_cons.1 hr with rfl | hr
      · have h1 := hx hw
        have h2 := ih.1 h1.1
        exact ⟨h2.1, by omega⟩
      · exact ih.2 ro hr hw
structure Sol where
  ro : List Int
  cost : Int
  log : List Sg
  code : Int
def solveP (p : Pl) (st : Int) : Sol :=
  if validP p = false ∨ st < 0 ∨ 100000 < st then ⟨[], 0, [], 1⟩ else
  if (impP p p.duties.length [] 0 ⟨st, ⟨false, [], 0⟩⟩).2 ≠ 0 then ⟨[], 0, [], (impP p p.duties.length [] 0 ⟨st, ⟨false, [], 0⟩⟩).2⟩ else
  if (impP p p.duties.length [] 0 ⟨st, ⟨false, [], 0⟩⟩).1.bs.found = false then ⟨[], 0, [], 171⟩ else
  if p.duties.length = 0 then ⟨[], 0, [], 0⟩ else
  if (refP p (impP p p.duties.length [] 0 ⟨st, ⟨false, [], 0⟩⟩).1.bs.cost p.duties.length [] 0 ⟨(impP p p.duties.length [] 0 ⟨st, ⟨false, [], 0⟩⟩).1.fuel, someL p p.duties.length⟩).2.2 ≠ 0 then ⟨[], 0, [], (refP p (impP p p.duties.length [] 0 ⟨st, ⟨false, [], 0⟩⟩).1.bs.cost p.duties.length [] 0 ⟨(impP p p.duties.length [] 0 ⟨st, ⟨false, [], 0⟩⟩).1.fuel, someL p p.duties.length⟩).2.2⟩ else
  ⟨(impP p p.duties.length [] 0 ⟨st, ⟨false, [], 0⟩⟩).1.bs.best, (impP p p.duties.length [] 0 ⟨st, ⟨false, [], 0⟩⟩).1.bs.cost, (refP p (impP p p.duties.length [] 0 ⟨st, ⟨false, [], 0⟩⟩).1.bs.cost p.duties.length [] 0 ⟨(impP p p.duties.length [] 0 ⟨st, ⟨false, [], 0⟩⟩).1.fuel, someL p p.duties.length⟩).1.log, 0⟩
theorem extP_code {σ : Type} {F : Nat → σ → σ × Int} {Q : Int → Prop} : ∀ (k w : Nat) (s : σ), Q 0 → (∀ v s, Q (F v s).2) → Q (extP F k w s).2
  | 0, _, _, h0, _ => h0
  | k + 1, w, s, h0, h => by
    rw [extP]
    split
    · exact extP_code k (w + 1) _ h0 h
    · exact h w s
theorem impP_code (p : Pl) : ∀ (m : Nat) (pre : List Int) (c : Int) (s : PS), (impP p m pre c s).2 = 0 ∨ (impP p m pre c s).2 = 201
  | 0, pre, c, s => by
    rw [impP]
    split
    · exact .inr rfl
    · split <;> exact .inl rfl
  | m + 1, pre, c, s => by
    rw [impP]
    split
    · exact .inr rfl
    · split
      · exact .inl rfl
      · exact extP_code (Q := fun x => x = 0 ∨ x = 201) _ _ _ (.inl rfl) fun v s => impP_code p m _ _ s
theorem addP_code (s : RS) (x : Sg) : (addP s x).2.2 = 0 ∨ (addP s x).2.2 = 201 := by
  unfold addP
  split
  · exact .inr rfl
  · exact .inl rfl
theorem extR_code {F : Nat → RS → RS × Int × Int} {Q : Int → Prop} : ∀ (k w : Nat) (frm : List Int) (s : RS), Q 0 → (∀ v s, Q (F v s).2.2) → Q (extR F k w frm s).2
  | 0, _, _, _, h0, _ => h0
  | k + 1, w, frm, s, h0, h => by
    rw [extR]
    split
    · exact extR_code k (w + 1) _ _ h0 h
    · exact h w s
theorem refP_code (p : Pl) (b : Int) : ∀ (m : Nat) (pre : List Int) (c : Int) (s : RS), (refP p b m pre c s).2.2 = 0 ∨ (refP p b m pre c s).2.2 = 201
  | m, pre, c, s => by
    rw [refP_eq]
    split
    · exact .inr rfl
    · split
      · exact addP_code _ _
      · split
        · exact addP_code _ _
        · cases m with
          | zero => exact addP_code _ _
          | succ m =>
            rw [rfStP]
            split
            · exact extR_code (Q := fun x => x = 0 ∨ x = 201) _ _ _ _ (.inl rfl) fun v s => refP_code p b m _ _ s
            · exact addP_code _ _
theorem fold_mem {p : Pl} : ∀ (l : List (List Int)) (s : BS), l.foldl (upd p) s = s ∨ ∃ ro ∈ l, workB p ro = true ∧ l.foldl (upd p) s = ⟨true, ro, costP p ro p.duties⟩
  | [], s => .inl rfl
  | x :: l, s => by
    rw [List.foldl_cons]
    have hx : upd p s x = s ∨ (workB p x = true ∧ upd p s x = ⟨true, x, costP p x p.duties⟩) := by
      unfold upd
      split
      · rename_i h
        rw [Bool.and_eq_true] at h
        exact .inr ⟨h.1, rfl⟩
      · exact .inl rfl
    rcases fold_mem (p := p) l (upd p s x) with h | ⟨ro, h1, h2, h3⟩
    · rcases hx with h4 | ⟨h4, h5⟩
      · exact .inl (by rw [h, h4])
      · exact .inr ⟨x, by simp, h4, by rw [h, h5]⟩
    · exact .inr ⟨ro, by simp [h1], h2, h3⟩
/-- the rosters in their order, and the best of them -/
def allR (p : Pl) : List (List Int) := comp p.workers.length p.duties.length []
def bestC (p : Pl) : BS := (allR p).foldl (upd p) ⟨false, [], 0⟩
theorem solve_cases {p : Pl} {st : Int} (hv : validP p = true) (hst : 0 ≤ st ∧ st ≤ 100000) (hd : ∀ d ∈ p.duties, 0 ≤ minD d) (hp : PosP p) :
    (∃ lg, solveP p st = ⟨(bestC p).best, (bestC p).cost, lg, 0⟩ ∧ (bestC p).found = true ∧ 0 < p.duties.length) ∨ (solveP p st = ⟨[], 0, [], 0⟩ ∧ p.duties.length = 0 ∧ (bestC p).found = true) ∨ (solveP p st = ⟨[], 0, [], 171⟩ ∧ (bestC p).found = false) ∨ solveP p st = ⟨[], 0, [], 201⟩ := by
  have hspec := impP_spec (p := p) hd hp p.duties.length [] 0 ⟨st, ⟨false, [], 0⟩⟩ ⟨by simp, by simp⟩ (by simp [costP]) (by simp)
  have hcode := impP_code p p.duties.length [] 0 ⟨st, ⟨false, [], 0⟩⟩
  unfold solveP
  rw [if_neg (by rw [hv]; simp; omega)]
  by_cases h1 : (impP p p.duties.length [] 0 ⟨st, ⟨false, [], 0⟩⟩).2 = 0
  · rw [if_neg (fun h => h h1)]
    have hb : (impP p p.duties.length [] 0 ⟨st, ⟨false, [], 0⟩⟩).1.bs = bestC p := hspec h1
    rw [hb]
    cases hf : (bestC p).found with
    | false => exact .inr (.inr (.inl ⟨by rw [if_pos rfl], rfl⟩))
    | true =>
      rw [if_neg (by simp)]
      by_cases hn : p.duties.length = 0
      · rw [if_pos hn]
        exact .inr (.inl ⟨rfl, hn, rfl⟩)
      · rw [if_neg hn]
        have hc2 := refP_code p (bestC p).cost p.duties.length [] 0 ⟨(impP p p.duties.length [] 0 ⟨st, ⟨false, [], 0⟩⟩).1.fuel, someL p p.duties.length⟩
        by_cases h2 : (refP p (bestC p).cost p.duties.length [] 0 ⟨(impP p p.duties.length [] 0 ⟨st, ⟨false, [], 0⟩⟩).1.fuel, someL p p.duties.length⟩).2.2 = 0
        · rw [if_neg (fun h => h h2)]
          exact .inl ⟨_, rfl, rfl, by omega⟩
        · rw [if_pos h2, hc2.resolve_left h2]
          exact .inr (.inr (.inr rfl))
  · rw [if_pos h1, hcode.resolve_left h1]
    exact .inr (.inr (.inr rfl))
/-- the best is one of the rosters -/
theorem best_mem {p : Pl} (h : (bestC p).found = true) : ∃ ro ∈ allR p, workB p ro = true ∧ bestC p = ⟨true, ro, costP p ro p.duties⟩ := by
  rcases fold_mem (p := p) (allR p) ⟨false, [], 0⟩ with h1 | h1
  · unfold bestC at h
    rw [h1] at h
    cases h
  · exact h1
theorem all_mem {p : Pl} {ro : List Int} : ro ∈ allR p ↔ ro.length = p.duties.length ∧ ∀ w ∈ ro, 0 ≤ w ∧ w < p.workers.length := by
  unfold allR
  constructor
  · intro h
    obtain ⟨e, he, h1, h2⟩ := comp_ext h
    rw [List.nil_append] at he
    subst he
    exact ⟨h1, h2⟩
  · rintro ⟨h1, h2⟩
    have := comp_all (W := p.workers.length) (e := ro) (pre := []) h2
    rwa [h1, List.nil_append] at this
end Go.Wage
