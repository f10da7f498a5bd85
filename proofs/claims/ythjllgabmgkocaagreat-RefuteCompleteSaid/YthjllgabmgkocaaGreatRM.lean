/-
  What the builder of RefuteComplete builds, and that it is accepted.
  Conditions: those of each theorem.
-/
import Derived.Test.YthjllgabmgkocaaGreatRK
namespace Go.Proofs.YthjllgabmgkocaaGreat
open Go.E2 Go.Wage
/-- the denial of the first duties' assignments -/
def noLo : Nat → List Int → List Lt
  | _, [] => []
  | o, w :: f => ⟨o, w, false⟩ :: noLo (o + 1) f
abbrev noL (f : List Int) : List Lt := noLo 0 f
theorem noLo_snoc (w : Int) : ∀ (f : List Int) (o : Nat), noLo o (f ++ [w]) = noLo o f ++ [⟨((o + f.length : Nat) : Int), w, false⟩]
  | [], o => by simp [noLo]
  | x :: f, o => by
    rw [List.cons_append, noLo, noLo, noLo_snoc w f (o + 1), List.cons_append, List.length_cons]
    congr 4
    omega
theorem noL_snoc (f : List Int) (w : Int) : noL (f ++ [w]) = noL f ++ [⟨(f.length : Int), w, false⟩] := by
  rw [noL, noLo_snoc, Nat.zero_add]
theorem noLo_len : ∀ (f : List Int) (o : Nat), (noLo o f).length = f.length
  | [], _ => rfl
  | x :: f, o => by rw [noLo, List.length_cons, noLo_len f, List.length_cons]
theorem noLo_mem {x : Lt} : ∀ {f : List Int} {o : Nat}, x ∈ noLo o f → ∃ i, i < f.length ∧ x = ⟨((o + i : Nat) : Int), f.getD i default, false⟩
  | [], _, h => by cases h
  | w :: f, o, h => by
    rw [noLo, List.mem_cons] at h
    rcases h with rfl | h
    · exact ⟨0, by simp, by simp⟩
    · obtain ⟨i, h1, h2⟩ := noLo_mem h
      refine ⟨i + 1, by simp; omega, ?_⟩
      rw [h2]
      simp
      omega
def yesL (d : Nat) (n : Nat) : List Lt := (List.range n).map fun w : Nat => (⟨d, w, true⟩ : Lt)
def denW (F : Nat → List Sg → Int × List Sg) : Nat → Nat → List Int → List Sg → Option (List Int) × List Sg
  | 0, _, frm, log => (some frm, log)
  | n + 1, w, frm, log => if (F w log).1 < 0 then (none, (F w log).2) else denW F n (w + 1) (frm ++ [(F w log).1]) (F w log).2
def partF (f : List Int) (m : Nat) : List Int := f ++ List.replicate m (-1)
def denP (p : Pl) (b : Int) : Nat → List Int → List Sg → Int × List Sg
  | 0, f, log => if badP p (partF f 0) ≠ [] then ((log.length : Int), log ++ [⟨noL f, 3, []⟩]) else
      if b ≤ costP p (partF f 0) p.duties ∧ 0 < f.length then ((log.length : Int), log ++ [⟨noL f, 4, []⟩]) else (-1, log)
  | m + 1, f, log => if badP p (partF f (m + 1)) ≠ [] then ((log.length : Int), log ++ [⟨noL f, 3, []⟩]) else
      match denW (fun w log => denP p b m (f ++ [(w : Int)]) log) p.workers.length 0 [] log with
      | (none, log') => (-1, log')
      | (some frm, log') => ((log'.length : Int) + 1, (log' ++ [⟨yesL f.length p.workers.length, 1, []⟩]) ++ [⟨noL f, 5, frm ++ [(log'.length : Int)]⟩])
/-- how many steps are added at most -/
def szD (n : Nat) : Nat → Nat
  | 0 => 1
  | m + 1 => n * szD n m + 2
theorem denW_len {F : Nat → List Sg → Int × List Sg} {M : Nat} (hF : ∀ w log, (F w log).2.length ≤ log.length + M) : ∀ (n w : Nat) (frm : List Int) (log : List Sg), (denW F n w frm log).2.length ≤ log.length + n * M
  | 0, _, _, log => by simp [denW]
  | n + 1, w, frm, log => by
    have h1 := hF w log
    have e : (n + 1) * M = n * M + M := by rw [Nat.add_mul, Nat.one_mul]
    rw [denW]
    split
    · dsimp only
      omega
    · have h2 := denW_len hF n (w + 1) (frm ++ [(F w log).1]) (F w log).2
      omega
theorem denP_len (p : Pl) (b : Int) : ∀ (m : Nat) (f : List Int) (log : List Sg), (denP p b m f log).2.length ≤ log.length + szD p.workers.length m
  | 0, f, log => by
    rw [denP, szD]
    split
    · simp
    · split <;> simp
  | m + 1, f, log => by
    have h := denW_len (F := fun w log => denP p b m (f ++ [(w : Int)]) log) (fun w log => denP_len p b m _ log) p.workers.length 0 [] log
    rw [denP, szD]
    split
    · simp
    · split
      · rename_i hd
        rw [hd] at h
        dsimp only at *
        omega
      · rename_i hd
        rw [hd] at h
        dsimp only at *
        simp only [List.length_append, List.length_cons, List.length_nil]
        omega
/-! steps and longer logs -/
theorem getD_app {α : Type} [Inhabited α] {l m : List α} {j : Nat} (h : j < l.length) : (l ++ m).getD j default = l.getD j default := by
  simp [List.getD, List.getElem?_append_left h]
theorem unitF_app {log m : List Sg} : ∀ {ks : List Int} {held : List Lt}, (∀ j ∈ ks, 0 ≤ j ∧ j < (log.length : Int)) → unitF (log ++ m) ks held = unitF log ks held
  | [], _, _ => rfl
  | k :: ks, held, h => by
    have h1 := h k (by simp)
    rw [unitF, unitF, getD_app (by omega), unitF_app fun j hj => h j (by simp [hj])]
theorem foll_app {p : Pl} {bd : Int} {log m : List Sg} {k : Nat} (hk : k < log.length) : follB p bd (log ++ m) k = follB p bd log k := by
  unfold follB
  rw [getD_app hk]
  congr 1
  unfold ruleB
  have hu : unitB (log ++ m) k (log.getD k default) = unitB log k (log.getD k default) := by
    unfold unitB
    cases h : (log.getD k default).frm.all fun j => decide (0 ≤ j) && decide (j < (k : Int)) with
    | false => rfl
    | true =>
      rw [List.all_eq_true] at h
      rw [unitF_app fun j hj => by have := h j hj; simp only [Bool.and_eq_true, decide_eq_true_eq] at this; omega]
  rw [hu]
theorem getD_last {α : Type} [Inhabited α] (l : List α) (x : α) : (l ++ [x]).getD l.length default = x := by simp [List.getD]
/-- all steps from base on follow, and are short -/
structure Good (p : Pl) (b : Int) (base : Nat) (log : List Sg) : Prop where
  f : ∀ j, base ≤ j → j < log.length → follB p b log j = true ∧ (log.getD j default).cl.length ≤ 100 ∧ (log.getD j default).frm.length ≤ 100
theorem Good.nil {p : Pl} {b : Int} (log : List Sg) : Good p b log.length log := ⟨fun j h1 h2 => by omega⟩
theorem Good.snoc {p : Pl} {b : Int} {base : Nat} {log : List Sg} {s : Sg} (h : Good p b base log) (hs : follB p b (log ++ [s]) log.length = true) (hc : s.cl.length ≤ 100) (hf : s.frm.length ≤ 100) : Good p b base (log ++ [s]) := by
  refine ⟨fun j h1 h2 => ?_⟩
  rw [List.length_append, List.length_cons, List.length_nil] at h2
  rcases Nat.lt_or_eq_of_le (Nat.lt_succ_iff.1 (show j < log.length + 1 by omega)) with hj | rfl
  · rw [foll_app hj, getD_app hj]
    exact h.f j h1 hj
  · rw [getD_last]
    exact ⟨hs, hc, hf⟩
theorem Good.trans {p : Pl} {b : Int} {a : Nat} {log m : List Sg} (h : Good p b a log) (h2 : Good p b log.length (log ++ m)) : Good p b a (log ++ m) := by
  refine ⟨fun j h3 h4 => ?_⟩
  rcases Nat.lt_or_ge j log.length with hj | hj
  · rw [foll_app hj, getD_app hj]
    exact h.f j h3 hj
  · exact h2.f j hj h4
/-! what is added follows -/
theorem mineR_rep (n w : Nat) : mineR (List.replicate n (-1)) w = [] := by
  unfold mineR
  rw [List.filter_eq_nil_iff]
  intro i hi
  rw [List.mem_range, List.length_replicate] at hi
  simp [List.getD, hi]
theorem bad_rep (p : Pl) (n : Nat) : badP p (List.replicate n (-1)) = [] := by
  rw [badP_nil]
  intro w _
  rw [mineR_rep, violW_nil]
  simp [trip]
theorem denL_no : ∀ (f pre : List Int) (m : Nat), (∀ w ∈ f, 0 ≤ w) → denL (noLo pre.length f) (pre ++ List.replicate (f.length + m) (-1)) = some (pre ++ (f ++ List.replicate m (-1)))
  | [], pre, m, _ => by rw [noLo, denL, List.length_nil, Nat.zero_add, List.nil_append]
  | w :: f, pre, m, h => by
    have e : (pre ++ List.replicate ((w :: f).length + m) (-1 : Int)) = pre ++ -1 :: List.replicate (f.length + m) (-1) := by
      rw [show (w :: f).length + m = (f.length + m) + 1 by simp; omega, List.replicate_succ]
    have hg : (pre ++ List.replicate ((w :: f).length + m) (-1 : Int)).getD ((pre.length : Nat) : Int).toNat default = -1 := by
      rw [e]; simp [List.getD]
    have hst : (pre ++ List.replicate ((w :: f).length + m) (-1 : Int)).set ((pre.length : Nat) : Int).toNat w = (pre ++ [w]) ++ List.replicate (f.length + m) (-1) := by
      rw [e]; simp
    rw [noLo, denL]
    dsimp only
    rw [hg, hst, if_pos (by decide)]
    have := denL_no f (pre ++ [w]) m fun x hx => h x (by simp [hx])
    rw [List.length_append, List.length_cons, List.length_nil] at this
    rw [this]
    simp
structure Pre (p : Pl) (f : List Int) (m : Nat) : Prop where
  v : validP p = true
  l : f.length + m = p.duties.length
  w : ∀ w ∈ f, 0 ≤ w ∧ w < p.workers.length
theorem Pre.proper {p : Pl} {f : List Int} {m : Nat} (h : Pre p f m) : (noL f).all (properB p) = true := by
  rw [List.all_eq_true]
  intro x hx
  obtain ⟨i, hi, rfl⟩ := noLo_mem hx
  have := h.w _ (gAt hi)
  have := h.l
  rw [properB_iff]
  dsimp only
  omega
theorem Pre.den {p : Pl} {f : List Int} {m : Nat} (h : Pre p f m) (h0 : 0 < f.length) (r : Int) : denS p ⟨noL f, r, []⟩ = some (partF f m) := by
  unfold denS
  have := denL_no f [] m fun w hw => (h.w w hw).1
  rw [if_pos (by simp only [List.length_nil, decide_true, Bool.true_and, decide_eq_true_eq]; rw [noLo_len]; exact h0), ← h.l]
  exact this
theorem Pre.len {p : Pl} {f : List Int} {m : Nat} (h : Pre p f m) : f.length ≤ 24 ∧ p.workers.length ≤ 12 ∧ p.duties.length ≤ 24 := by
  have := validP_iff.1 h.v
  have := h.l
  omega
theorem foll_bad {p : Pl} {b : Int} {f : List Int} {m : Nat} {log : List Sg} (h : Pre p f m) (hb : badP p (partF f m) ≠ []) : follB p b (log ++ [⟨noL f, 3, []⟩]) log.length = true := by
  have h0 : 0 < f.length := by
    apply Nat.pos_of_ne_zero
    intro e
    have : f = [] := List.eq_nil_of_length_eq_zero e
    subst this
    exact hb (bad_rep p m)
  unfold follB ruleB
  rw [getD_last]
  dsimp only
  rw [h.proper, if_neg (by decide), if_neg (by decide), if_pos rfl, badS, h.den h0, Bool.true_and]
  exact violB_iff.2 hb
theorem full_eq (p : Pl) : ∀ (f : List Int) (ds : List Du), (∀ w ∈ f, 0 ≤ w) → fullP p f ds = costP p f ds
  | [], _, _ => by simp [fullP, costP]
  | w :: f, [], _ => by simp [fullP, costP]
  | w :: f, d :: ds, h => by
    rw [fullP, costP, full_eq p f ds fun x hx => h x (by simp [hx]), if_pos (h w (by simp)), if_pos (h w (by simp))]
theorem foll_cost {p : Pl} {b : Int} {f : List Int} {log : List Sg} (h : Pre p f 0) (h0 : 0 < f.length) (hb : b ≤ costP p (partF f 0) p.duties) : follB p b (log ++ [⟨noL f, 4, []⟩]) log.length = true := by
  unfold follB ruleB
  rw [getD_last]
  dsimp only
  rw [h.proper, if_neg (by decide), if_neg (by decide), if_neg (by decide), if_pos rfl, costS, h.den h0, Bool.true_and]
  dsimp only
  rw [full_eq, decide_eq_true hb]
  intro w hw
  unfold partF at hw
  rw [List.replicate_zero, List.append_nil] at hw
  exact (h.w w hw).1
theorem foll_some {p : Pl} {b : Int} {f : List Int} {m : Nat} {log : List Sg} (h : Pre p f (m + 1)) : follB p b (log ++ [⟨yesL f.length p.workers.length, 1, []⟩]) log.length = true := by
  have hl := h.l
  unfold follB ruleB
  rw [getD_last, if_pos rfl, Bool.and_eq_true_iff]
  refine ⟨?_, ?_⟩
  · rw [List.all_eq_true]
    intro x hx
    unfold yesL at hx
    obtain ⟨w, hw, rfl⟩ := List.mem_map.1 hx
    rw [List.mem_range] at hw
    rw [properB_iff]
    dsimp only
    omega
  · unfold someB
    dsimp only
    have e : (yesL f.length p.workers.length).length = p.workers.length := by unfold yesL; simp
    rw [e, List.length_nil, decide_eq_true rfl, decide_eq_true (by omega : 0 < p.duties.length), decide_eq_true rfl, Bool.true_and, Bool.true_and, Bool.true_and, List.all_eq_true]
    intro i hi
    rw [List.mem_range] at hi
    have g : ∀ j, j < p.workers.length → (yesL f.length p.workers.length).getD j default = ⟨(f.length : Int), (j : Int), true⟩ := fun j hj => by unfold yesL; simp [List.getD, hj]
    unfold rowB
    rw [g i hi, g 0 (by omega), decide_eq_true rfl]
/-- held literals while the workers are gone through -/
def heldF (f : List Int) : Nat → List Lt
  | 0 => (noL f).map negL
  | w + 1 => ⟨f.length, w, false⟩ :: heldF f w
theorem heldF_pos {f : List Int} {x : Lt} : ∀ {w : Nat}, x ∈ (noL f).map negL → x ∈ heldF f w
  | 0, h => h
  | _w + 1, h => List.mem_cons_of_mem _ (heldF_pos h)
theorem heldF_neg {f : List Int} {v : Nat} : ∀ {w : Nat}, v < w → (⟨f.length, v, false⟩ : Lt) ∈ heldF f w
  | 0, h => by omega
  | w + 1, h => by
    rw [heldF, List.mem_cons]
    rcases Nat.lt_or_eq_of_le (Nat.lt_succ_iff.1 h) with h | rfl
    · exact .inr (heldF_neg h)
    · exact .inl rfl
theorem heldF_not {f : List Int} {v : Int} : ∀ {w : Nat}, (⟨f.length, v, true⟩ : Lt) ∉ heldF f w
  | 0, h => by
    rw [heldF] at h
    obtain ⟨y, hy, e⟩ := List.mem_map.1 h
    obtain ⟨i, hi, rfl⟩ := noLo_mem hy
    unfold negL at e
    injection e with e1 e2
    dsimp only at e1
    omega
  | w + 1, h => by
    rw [heldF, List.mem_cons] at h
    rcases h with h | h
    · injection h with h1 h2 h3; cases h3
    · exact heldF_not h
theorem open_no {f : List Int} {w : Nat} : openL (heldF f w) (noL (f ++ [(w : Int)])) = [⟨f.length, w, false⟩] := by
  unfold openL
  rw [noL_snoc, List.filter_append, List.filter_eq_nil_iff.2, List.nil_append, List.filter_cons, List.filter_nil, if_pos]
  · rw [Bool.not_eq_true', List.contains_eq_mem, decide_eq_false_iff_not]
    exact heldF_not
  · intro x hx
    rw [Bool.not_eq_true, Bool.not_eq_false', List.contains_eq_mem, decide_eq_true_eq]
    exact heldF_pos (List.mem_map.2 ⟨x, hx, rfl⟩)
theorem open_yes {f : List Int} {n : Nat} : openL (heldF f n) (yesL f.length n) = [] := by
  unfold openL yesL
  rw [List.filter_eq_nil_iff]
  intro x hx
  obtain ⟨w, hw, rfl⟩ := List.mem_map.1 hx
  rw [List.mem_range] at hw
  rw [Bool.not_eq_true, Bool.not_eq_false', List.contains_eq_mem, decide_eq_true_eq]
  exact heldF_neg hw
theorem unit_go {log : List Sg} {f : List Int} {n : Nat} {K : Int} (hK : (log.getD K.toNat default).cl = yesL f.length n) : ∀ (ks : List Int) (w : Nat), w + ks.length = n → (∀ i, i < ks.length → (log.getD (ks.getD i default).toNat default).cl = noL (f ++ [((w + i : Nat) : Int)])) → unitF log (ks ++ [K]) (heldF f w) = true
  | [], w, h, _ => by
    have : w = n := by simpa using h
    subst this
    rw [List.nil_append, unitF, hK, open_yes, if_pos rfl]
    rfl
  | k :: ks, w, h, hc => by
    have h0 := hc 0 (by simp)
    simp only [Nat.add_zero] at h0
    have e0 : (k :: ks).getD 0 default = k := rfl
    rw [e0] at h0
    rw [List.cons_append, unitF, h0, open_no, if_neg (by simp)]
    have e1 : sameL [(⟨f.length, w, false⟩ : Lt)] = true := by simp [sameL]
    rw [e1, Bool.true_and]
    have := unit_go hK ks (w + 1) (by simp at h; omega) fun i hi => by
      have := hc (i + 1) (by simp; omega)
      rw [show w + 1 + i = w + (i + 1) by omega, ← this]
      rfl
    exact this
theorem denW_spec {p : Pl} {b : Int} {f : List Int} {F : Nat → List Sg → Int × List Sg}
    (hF : ∀ w log, w < p.workers.length → 0 ≤ (F w log).1 → ∃ e, (F w log).2 = log ++ e ∧ Good p b log.length (log ++ e) ∧ (F w log).1 < (log ++ e).length ∧ ((log ++ e).getD (F w log).1.toNat default).cl = noL (f ++ [(w : Int)])) :
    ∀ (n w : Nat) (frm : List Int) (log : List Sg) (frm' : List Int) (log' : List Sg), w + n = p.workers.length → denW F n w frm log = (some frm', log') →
      ∃ e ks, log' = log ++ e ∧ Good p b log.length (log ++ e) ∧ frm' = frm ++ ks ∧ ks.length = n ∧ ∀ i, i < n → 0 ≤ ks.getD i default ∧ ks.getD i default < log'.length ∧ (log'.getD (ks.getD i default).toNat default).cl = noL (f ++ [((w + i : Nat) : Int)])
  | 0, w, frm, log, frm', log', _, h => by
    rw [denW] at h
    injection h with h1 h2
    injection h1 with h1
    subst h1; subst h2
    exact ⟨[], [], by simp, by rw [List.append_nil]; exact Good.nil _, by simp, rfl, fun i hi => by omega⟩
  | n + 1, w, frm, log, frm', log', hw, h => by
    rw [denW] at h
    split at h
    · cases h
    · rename_i hk
      obtain ⟨e, h1, h2, h3, h4⟩ := hF w log (by omega) (by omega)
      obtain ⟨e', ks, g1, g2, g3, g4, g5⟩ := denW_spec hF n (w + 1) _ _ frm' log' (by omega) h
      generalize (F w log).1 = k at *
      rw [h1] at g1 g2
      refine ⟨e ++ e', k :: ks, by rw [g1, List.append_assoc], ?_, by rw [g3]; simp, by simp [g4], fun i hi => ?_⟩
      · rw [← List.append_assoc]
        exact h2.trans g2
      · cases i with
        | zero =>
          have e0 : (k :: ks).getD 0 default = k := rfl
          rw [e0, Nat.add_zero, g1, getD_app (by omega)]
          exact ⟨by omega, by rw [List.length_append]; omega, h4⟩
        | succ i =>
          have := g5 i (by omega)
          rw [show w + 1 + i = w + (i + 1) by omega] at this
          exact this
theorem denP_spec {p : Pl} {b : Int} : ∀ (m : Nat) (f : List Int) (log : List Sg), Pre p f m → 0 ≤ (denP p b m f log).1 → ∃ e, (denP p b m f log).2 = log ++ e ∧ Good p b log.length (log ++ e) ∧ (denP p b m f log).1 + 1 = (log ++ e).length ∧ ((log ++ e).getD (denP p b m f log).1.toNat default).cl = noL f
  | 0, f, log, h, hk => by
    have hl := h.len
    rw [denP] at hk ⊢
    split at hk
    · rename_i hb
      rw [if_pos hb]
      refine ⟨_, rfl, (Good.nil log).snoc (foll_bad h hb) (by rw [noLo_len]; omega) (by simp), by simp, ?_⟩
      rw [Int.toNat_natCast, getD_last]
    · rename_i hb
      rw [if_neg hb]
      split at hk
      · rename_i hc
        rw [if_pos hc]
        refine ⟨_, rfl, (Good.nil log).snoc (foll_cost h hc.2 hc.1) (by rw [noLo_len]; omega) (by simp), by simp, ?_⟩
        rw [Int.toNat_natCast, getD_last]
      · simp at hk
  | m + 1, f, log, h, hk => by
    have hl := h.len
    have hpre : ∀ w : Nat, w < p.workers.length → Pre p (f ++ [(w : Int)]) m := fun w hw => ⟨h.v, by have := h.l; simp; omega, fun x hx => by
      rcases List.mem_append.1 hx with hx | hx
      · exact h.w x hx
      · rw [List.mem_singleton] at hx; omega⟩
    rw [denP] at hk ⊢
    split at hk
    · rename_i hb
      rw [if_pos hb]
      refine ⟨_, rfl, (Good.nil log).snoc (foll_bad h hb) (by rw [noLo_len]; omega) (by simp), by simp, ?_⟩
      rw [Int.toNat_natCast, getD_last]
    · rename_i hb
      rw [if_neg hb]
      cases hd : denW (fun w log => denP p b m (f ++ [(w : Int)]) log) p.workers.length 0 [] log with
      | mk o log' =>
        rw [hd] at hk
        cases o with
        | none => simp at hk
        | some frm =>
          dsimp only at hk ⊢
          obtain ⟨e, ks, g1, g2, g3, g4, g5⟩ := denW_spec (p := p) (b := b) (f := f) (fun w log hw h0 => by
            obtain ⟨e, a1, a2, a3, a4⟩ := denP_spec m (f ++ [(w : Int)]) log (hpre w hw) h0
            exact ⟨e, a1, a2, by omega, a4⟩) p.workers.length 0 [] log frm log' (by omega) hd
          rw [List.nil_append] at g3
          subst g3
          have G1 : Good p b log.length (log' ++ [⟨yesL f.length p.workers.length, 1, []⟩]) := by
            rw [g1]
            exact g2.snoc (foll_some h) (by unfold yesL; simp; omega) (by simp)
          have hu : follB p b ((log' ++ [⟨yesL f.length p.workers.length, 1, []⟩]) ++ [⟨noL f, 5, frm ++ [(log'.length : Int)]⟩]) (log' ++ [(⟨yesL f.length p.workers.length, 1, []⟩ : Sg)]).length = true := by
            unfold follB ruleB
            rw [getD_last]
            dsimp only
            rw [h.proper, if_neg (by decide), if_neg (by decide), if_neg (by decide), if_neg (by decide), if_pos rfl, Bool.true_and]
            unfold unitB
            dsimp only
            have hrg : ∀ j ∈ frm ++ [(log'.length : Int)], 0 ≤ j ∧ j < ((log' ++ [(⟨yesL f.length p.workers.length, 1, []⟩ : Sg)]).length : Int) := by
              intro j hj
              rw [List.length_append, List.length_cons, List.length_nil]
              rcases List.mem_append.1 hj with hj | hj
              · obtain ⟨i, hi, rfl⟩ := List.mem_iff_getElem.1 hj
                have := g5 i (by omega)
                rw [getD_at hi] at this
                omega
              · rw [List.mem_singleton] at hj; omega
            rw [Bool.and_eq_true_iff]
            refine ⟨?_, ?_⟩
            · rw [List.all_eq_true]
              intro j hj
              have := hrg j hj
              simp only [Bool.and_eq_true, decide_eq_true_eq]
              exact this
            · rw [unitF_app hrg]
              refine unit_go (f := f) (n := p.workers.length) (by rw [Int.toNat_natCast, getD_last]) frm 0 (by omega) fun i hi => ?_
              have := g5 i (by omega)
              rw [getD_app (by omega)]
              exact this.2.2
          refine ⟨e ++ [⟨yesL f.length p.workers.length, 1, []⟩] ++ [⟨noL f, 5, frm ++ [(log'.length : Int)]⟩], by rw [g1]; simp, ?_, ?_, ?_⟩
          · have G2 := G1.snoc hu (by rw [noLo_len]; omega) (by simp; omega)
            rw [← List.append_assoc, ← List.append_assoc, ← g1]
            exact G2
          · rw [← List.append_assoc, ← List.append_assoc, ← g1]
            simp
            omega
          · rw [← List.append_assoc, ← List.append_assoc, ← g1]
            have : ((log'.length : Int) + 1).toNat = (log' ++ [(⟨yesL f.length p.workers.length, 1, []⟩ : Sg)]).length := by simp
            rw [this, getD_last]
theorem szD_le {n m : Nat} (hn : n ≤ 3) (hm : m ≤ 4) : szD n m ≤ 1000 := by
  have : ∀ n, n < 4 → ∀ m, m < 5 → szD n m ≤ 1000 := by decide
  exact this n (by omega) m (by omega)
theorem den_check {p : Pl} {b : Int} (hv : validP p = true) (h4 : p.duties.length ≤ 4) (h3 : p.workers.length ≤ 3) (hk : 0 ≤ (denP p b p.duties.length [] []).1) :
    (denP p b p.duties.length [] []).1 + 1 = (denP p b p.duties.length [] []).2.length ∧ checkB p b (denP p b p.duties.length [] []).2 = true ∧ ∀ s ∈ (denP p b p.duties.length [] []).2, s.cl.length ≤ 100 ∧ s.frm.length ≤ 100 := by
  have hpre : Pre p [] p.duties.length := ⟨hv, by simp, by simp⟩
  have hz := denP_len p b p.duties.length [] []
  obtain ⟨e, h1, h2, h3', h4'⟩ := denP_spec p.duties.length [] [] hpre hk
  rw [List.nil_append] at h1 h2 h3' h4'
  rw [h1] at hz ⊢
  generalize (denP p b p.duties.length [] []).1 = k at *
  have hsz : szD p.workers.length p.duties.length ≤ 1000 := szD_le h3 h4
  rw [List.length_nil] at hz h2
  refine ⟨h3', ?_, fun s hs => ?_⟩
  · unfold checkB
    simp only [Bool.and_eq_true, decide_eq_true_eq, List.all_eq_true, List.mem_range]
    have ek : e.length - 1 = k.toNat := by omega
    refine ⟨⟨⟨⟨hv, by omega⟩, by omega⟩, fun j hj => (h2.f j (Nat.zero_le _) hj).1⟩, ?_⟩
    rw [ek, h4']
    rfl
  · obtain ⟨j, hj, rfl⟩ := List.mem_iff_getElem.1 hs
    have := (h2.f j (Nat.zero_le _) hj).2
    rwa [getD_at hj] at this
end Go.Proofs.YthjllgabmgkocaaGreat
