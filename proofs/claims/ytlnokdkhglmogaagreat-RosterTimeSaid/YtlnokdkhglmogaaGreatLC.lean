/-
  The plain law of RosterWorkers, RosterSkills.
  Conditions: those of each theorem.
-/
import Derived.Test.YtlnokdkhglmogaaGreatLB
namespace Go.Proofs.YtlnokdkhglmogaaGreat
open Go.E2 Go.Wage
def aloneR (ro : List Int) (w : Int) : List Int := ro.map fun x => if x = w then x else -1
theorem aloneR_at {ro : List Int} {w : Int} {i : Nat} (h : i < ro.length) : (aloneR ro w).getD i default = if ro.getD i default = w then ro.getD i default else -1 := by
  have h2 : i < (aloneR ro w).length := by simp [aloneR, h]
  rw [getD_at h2, getD_at h]
  simp [aloneR]
theorem alone_mine {ro : List Int} {w w' : Nat} : mineR (aloneR ro w) w' = if w' = w then mineR ro w else [] := by
  unfold mineR
  have hl : (aloneR ro w).length = ro.length := by simp [aloneR]
  rw [hl]
  split
  · rename_i h
    subst h
    refine List.filter_congr fun i hi => ?_
    rw [aloneR_at (List.mem_range.1 hi), decide_eq_decide]
    split <;> omega
  · rename_i h
    rw [List.filter_eq_nil_iff]
    intro i hi
    rw [aloneR_at (List.mem_range.1 hi), decide_eq_true_eq]
    split <;> omega
theorem alone_par (ro : List Int) (w : Int) : Par ro (aloneR ro w) := by
  refine ⟨by simp [aloneR], fun k => ?_⟩
  by_cases h : k < ro.length
  · rw [aloneR_at h]
    split
    · exact .inl rfl
    · exact .inr rfl
  · left
    have h2 : (aloneR ro w).length = ro.length := by simp [aloneR]
    simp [List.getD, List.getElem?_eq_none (show ro.length ≤ k by omega), List.getElem?_eq_none (show (aloneR ro w).length ≤ k by omega)]
theorem mem_badP {p : Pl} {ro : List Int} {x : Vi} : x ∈ badP p ro ↔ ∃ w, w < p.workers.length ∧ x ∈ violW p w (mineR ro w) := by
  unfold badP violAll
  rw [canV_mem, List.mem_flatMap]
  exact ⟨fun ⟨w, h1, h2⟩ => ⟨w, List.mem_range.1 h1, h2⟩, fun ⟨w, h1, h2⟩ => ⟨w, List.mem_range.2 h1, h2⟩⟩
theorem badP_wk {p : Pl} {ro : List Int} {x : Vi} (h : x ∈ badP p ro) : 0 ≤ x.wk ∧ x.wk < p.workers.length := by
  obtain ⟨w, h1, h2⟩ := mem_badP.1 h
  have := violW_wk h2
  omega
theorem restL_kind {p : Pl} {w : Int} : ∀ {mine : List Nat} {v : Vi}, v ∈ restL p w mine → v.kind = 3
  | [], v, h => by cases h
  | d :: l, v, h => by
    rw [restL] at h
    rcases List.mem_append.1 h with h | h
    · obtain ⟨x, _, rfl⟩ := List.mem_map.1 h; rfl
    · exact restL_kind h
theorem violW_none (p : Pl) (w : Nat) : violW p w [] = [] := violW_nil.2 ⟨by simp, by simp, .nil, by simp [trip], by simp, by simp [trip]⟩
theorem alone_bad {p : Pl} {ro : List Int} {w : Nat} (hw : w < p.workers.length) : badP p (aloneR ro w) = (badP p ro).filter fun v => decide (v.wk = (w : Int)) := by
  refine (canV_uniq ((canV_ord _).filter _) fun x => ?_).symm
  rw [List.mem_filter, decide_eq_true_eq]
  constructor
  · rintro ⟨h1, h2⟩
    obtain ⟨w', h3, h4⟩ := mem_badP.1 h1
    have h5 := violW_wk h4
    obtain rfl : w' = w := by omega
    exact List.mem_flatMap.2 ⟨w', List.mem_range.2 hw, by rw [alone_mine, if_pos rfl]; exact h4⟩
  · intro h
    obtain ⟨w', h1, h2⟩ := List.mem_flatMap.1 h
    rw [alone_mine] at h2
    split at h2
    · rename_i e
      subst e
      exact ⟨mem_badP.2 ⟨w', List.mem_range.1 h1, h2⟩, violW_wk h2⟩
    · rw [violW_none] at h2; cases h2
/-- a worker who can do everything and is never away -/
def ablP (p : Pl) (w : Nat) : Pl := { p with workers := p.workers.set w { p.workers.getD w default with skill := 65535, away := [] } }
theorem abl_get {p : Pl} {w : Nat} (hw : w < p.workers.length) (k : Nat) : (ablP p w).workers.getD k default = if k = w then { p.workers.getD w default with skill := 65535, away := [] } else p.workers.getD k default := by
  unfold ablP
  dsimp only
  by_cases h : k = w
  · subst h; simp [List.getD, hw]
  · rw [if_neg h]
    simp [List.getD, List.getElem?_set_ne (fun e => h e.symm)]
theorem viol_abl {p : Pl} {w : Nat} (hw : w < p.workers.length) {k : Nat} {l : List Nat} (hsk : ∀ d ∈ l, 0 ≤ (p.duties.getD d default).skill ∧ (p.duties.getD d default).skill ≤ 65535) {x : Vi} : x ∈ violW (ablP p w) k l ↔ x ∈ violW p k l ∧ (k ≠ w ∨ (x.kind ≠ 1 ∧ x.kind ≠ 2)) := by
  have ht : trip (ablP p w) l = trip p l := rfl
  have h3 : restL (ablP p w) k l = restL p k l := by
    induction l with
    | nil => rfl
    | cons d l ih => rw [restL, restL, ih (fun e he => hsk e (by simp [he])) rfl]; rfl
  have h4 : weekL (ablP p w) k (trip p l) = weekL p k (trip p l) := rfl
  have h6 : minL (ablP p w) k (trip p l) = minL p k (trip p l) := rfl
  have hm : ((ablP p w).workers.getD k default).minor = (p.workers.getD k default).minor := by
    rw [abl_get hw]
    split
    · rename_i h; rw [h]
    · rfl
  have h5 : sing 5 k (fun d => niB (ablP p w) ((ablP p w).duties.getD d default)) l = sing 5 k (fun d => niB p (p.duties.getD d default)) l := rfl
  by_cases hk : k = w
  · have h1 : sing 1 k (fun d => skB ((ablP p w).workers.getD k default) ((ablP p w).duties.getD d default)) l = [] := by
      refine sing_nil.2 fun d hd => ?_
      rw [abl_get hw, if_pos hk]
      unfold skB
      rw [decide_eq_false_iff_not]
      have h := hsk d hd
      have e : (ablP p w).duties.getD d default = p.duties.getD d default := rfl
      rw [e]
      dsimp only
      have : (p.duties.getD d default).skill.toNat &&& (65535 : Int).toNat = (p.duties.getD d default).skill.toNat := by
        show _ &&& (2 ^ 16 - 1) = _
        rw [Nat.and_two_pow_sub_one_eq_mod]
        omega
      rw [this]
      omega
    have h2 : sing 2 k (fun d => awB ((ablP p w).workers.getD k default) ((ablP p w).duties.getD d default)) l = [] := by
      refine sing_nil.2 fun d hd => ?_
      rw [abl_get hw, if_pos hk]
      rfl
    unfold violW
    rw [h1, h2, h3, ht, h4, h5, h6, hm]
    simp only [List.nil_append, List.mem_append, hk, ne_eq, not_true_eq_false, false_or]
    constructor
    · intro h
      refine ⟨.inr (.inr h), ?_⟩
      rcases h with h | h | h | h
      · have := (restL_kind h); omega
      · have := (weekL_kind h).1; omega
      · have := (sing_kind (ite_mem h)).1; omega
      · have := (minL_kind (ite_mem h)).1; omega
    · rintro ⟨h | h | h, h7⟩
      · exact absurd (sing_kind h).1 h7.1
      · exact absurd (sing_kind h).1 h7.2
      · exact h
  · have h1 : sing 1 k (fun d => skB ((ablP p w).workers.getD k default) ((ablP p w).duties.getD d default)) l = sing 1 k (fun d => skB (p.workers.getD k default) (p.duties.getD d default)) l := by
      rw [abl_get hw, if_neg hk]; rfl
    have h2 : sing 2 k (fun d => awB ((ablP p w).workers.getD k default) ((ablP p w).duties.getD d default)) l = sing 2 k (fun d => awB (p.workers.getD k default) (p.duties.getD d default)) l := by
      rw [abl_get hw, if_neg hk]; rfl
    have : violW (ablP p w) k l = violW p k l := by
      unfold violW
      rw [h1, h2, h3, ht, h4, h5, h6, hm]
    rw [this]
    exact ⟨fun h => ⟨h, .inl hk⟩, fun h => h.1⟩
theorem abl_bad {p : Pl} {ro : List Int} {w : Nat} (hw : w < p.workers.length) (hk : okRo p ro = true) : badP (ablP p w) ro = (badP p ro).filter fun v => !(decide (v.wk = (w : Int)) && (decide (v.kind = 1) || decide (v.kind = 2))) := by
  unfold okRo at hk
  rw [Bool.and_eq_true_iff] at hk
  have hr := (isRo_iff.1 hk.2).1
  have hlen : (ablP p w).workers.length = p.workers.length := by simp [ablP]
  have hsk : ∀ k, ∀ d ∈ mineR ro (k : Nat), 0 ≤ (p.duties.getD d default).skill ∧ (p.duties.getD d default).skill ≤ 65535 := fun k d hd => by
    have h1 := mineR_lt hd
    have h2 := List.all_eq_true.1 (validP_iff.1 hk.1).2.2.2.1 _ (getD_mem (l := p.duties) (k := d) (by omega))
    unfold dutyOk at h2
    have := duB_bd (Bool.and_eq_true_iff.1 h2).1
    omega
  refine (canV_uniq ((canV_ord _).filter _) fun x => ?_).symm
  rw [List.mem_filter]
  have hc : (!(decide (x.wk = (w : Int)) && (decide (x.kind = 1) || decide (x.kind = 2)))) = true ↔ (x.wk ≠ (w : Int) ∨ (x.kind ≠ 1 ∧ x.kind ≠ 2)) := by
    simp only [Bool.not_eq_true', Bool.and_eq_false_iff, Bool.or_eq_false_iff, decide_eq_false_iff_not, ne_eq]
  rw [hc]
  constructor
  · rintro ⟨h1, h2⟩
    obtain ⟨k, h3, h4⟩ := mem_badP.1 h1
    have h5 := violW_wk h4
    refine List.mem_flatMap.2 ⟨k, List.mem_range.2 (by rw [hlen]; exact h3), (viol_abl hw (hsk k)).2 ⟨h4, ?_⟩⟩
    rcases h2 with h2 | h2
    · left; rintro rfl; exact h2 h5
    · exact .inr h2
  · intro h
    obtain ⟨k, h1, h2⟩ := List.mem_flatMap.1 h
    have h1 := List.mem_range.1 h1
    rw [hlen] at h1
    obtain ⟨h3, h4⟩ := (viol_abl hw (hsk k)).1 h2
    have h5 := violW_wk h3
    refine ⟨mem_badP.2 ⟨k, h1, h3⟩, ?_⟩
    rcases h4 with h4 | h4
    · left; rw [h5]; omega
    · exact .inr h4
theorem abl_ok {p : Pl} {ro : List Int} {w : Nat} (hw : w < p.workers.length) (hk : okRo p ro = true) : okRo (ablP p w) ro = true := by
  unfold okRo at *
  rw [Bool.and_eq_true_iff] at *
  have hlen : (ablP p w).workers.length = p.workers.length := by simp [ablP]
  refine ⟨?_, ?_⟩
  · have h := validP_iff.1 hk.1
    refine validP_iff.2 ⟨h.1, h.2.1, by rw [hlen]; exact h.2.2.1, h.2.2.2.1, ?_, h.2.2.2.2.2⟩
    rw [List.all_eq_true]
    intro x hx
    obtain ⟨k, hkl, rfl⟩ := List.mem_iff_getElem.1 hx
    rw [← getD_at hkl, abl_get hw]
    have hkl' : k < p.workers.length := by rw [← hlen]; exact hkl
    split
    · have h1 := wkOk_iff.1 (List.all_eq_true.1 h.2.2.2.2.1 _ (getD_mem (l := p.workers) (k := w) hw))
      exact wkOk_iff.2 ⟨by unfold inB; simp, h1.2.1, by simp, by unfold validS; rfl, by simp⟩
    · exact List.all_eq_true.1 h.2.2.2.2.1 _ (getD_mem hkl')
  · have h := isRo_iff.1 hk.2
    exact isRo_iff.2 ⟨h.1, by rw [hlen]; exact h.2⟩
theorem restL_len {p : Pl} {w : Int} {n : Nat} : ∀ {l : List Nat}, l.length ≤ n → (restL p w l).length ≤ n * l.length
  | [], _ => by simp [restL]
  | d :: l, h => by
    rw [List.length_cons] at h
    have ih := restL_len (p := p) (w := w) (n := n) (l := l) (by omega)
    have hf := List.length_filter_le (restB p d) l
    rw [restL, List.length_append, List.length_map, List.length_cons, Nat.mul_succ]
    omega
theorem insV_len (v : Vi) : ∀ l : List Vi, (insV v l).length ≤ l.length + 1
  | [] => by simp [insV]
  | x :: l => by
    have := insV_len v l
    rw [insV]
    split
    · simp
    · split
      · simp
      · simp only [List.length_cons]; omega
theorem canV_len : ∀ l : List Vi, (canV l).length ≤ l.length
  | [] => by simp [canV]
  | x :: l => by
    have h1 := canV_len l
    have h2 := insV_len x (canV l)
    have e : canV (x :: l) = insV x (canV l) := rfl
    rw [e, List.length_cons]
    omega
theorem flat_len {f : Nat → List Vi} {m : Nat} : ∀ {n : Nat}, (∀ k, k < n → (f k).length ≤ m) → ((List.range n).flatMap f).length ≤ m * n
  | 0, _ => by simp
  | n + 1, h => by
    have ih := flat_len (f := f) (m := m) (n := n) fun k hk => h k (by omega)
    have h1 := h n (by omega)
    rw [List.range_succ, List.flatMap_append, List.length_append, Nat.mul_succ]
    simp only [List.flatMap_cons, List.flatMap_nil, List.append_nil]
    omega
theorem badP_len {p : Pl} {ro : List Int} (hs : Small p) (hk : okRo p ro = true) : (badP p ro).length ≤ 1000000000 := by
  unfold okRo at hk
  rw [Bool.and_eq_true_iff] at hk
  have hr := (isRo_iff.1 hk.2).1
  have hv := validP_iff.1 hk.1
  have h1 := canV_len (violAll p ro)
  have h2 : (violAll p ro).length ≤ 100000 * p.workers.length := flat_len fun k hkl => by
    have ho : MineOk p k (mineR ro k) := ⟨hk.1, hkl, fun d hd => by have := mineR_lt hd; omega, by have := mineR_len ro k; have := hv.2.1; omega, hs, mineR_nodup ro k⟩
    have ht := ho.tri.len
    have hml := mineR_len ro k
    have h24 := hv.2.1
    generalize mineR ro k = mine at *
    have a1 := sing_len 1 k (fun d => skB (p.workers.getD k default) (p.duties.getD d default)) mine
    have a2 := sing_len 2 k (fun d => awB (p.workers.getD k default) (p.duties.getD d default)) mine
    have a3 := restL_len (p := p) (w := (k : Int)) (n := 24) (l := mine) (by omega)
    have a4 : (weekL p k (trip p mine)).length ≤ (trip p mine).length := by
      unfold weekL
      rw [List.length_map]
      refine Nat.le_trans (List.length_filter_le _ _) ?_
      rw [List.length_map]
      exact Nat.le_refl _
    have a5 : (if (p.workers.getD k default).minor = true then sing 5 k (fun d => niB p (p.duties.getD d default)) mine else []).length ≤ mine.length := by
      split
      · exact sing_len 5 k _ mine
      · simp
    have a6 : (if (p.workers.getD k default).minor = true then minL p k (trip p mine) else []).length ≤ (trip p mine).length := by
      split
      · unfold minL
        rw [List.length_map]
        refine Nat.le_trans (List.length_filter_le _ _) ?_
        rw [List.length_map]
        exact Nat.le_refl _
      · simp
    unfold violW
    simp only [List.length_append]
    omega
  have h12 := hv.2.2.1
  unfold badP
  omega
end Go.Proofs.YtlnokdkhglmogaaGreat
