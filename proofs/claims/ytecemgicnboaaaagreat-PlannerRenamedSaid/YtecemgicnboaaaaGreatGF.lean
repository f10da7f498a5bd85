/-
  Plain part of chapter 20: two duties exchanged.
  Conditions: those of each theorem.
-/
import Derived.Test.YtecemgicnboaaaaGreatGE
namespace Go.Wage
/-- two numbers exchanged -/
def swN (a b x : Nat) : Nat := if x = a then b else if x = b then a else x
theorem swN_swN (a b x : Nat) : swN a b (swN a b x) = x := by
  unfold swN
  by_cases h1 : x = a
  · subst h1
    rw [if_pos rfl]
    by_cases h2 : b = x
    · rw [if_pos h2]; exact h2
    · rw [if_neg h2, if_pos rfl]
  · rw [if_neg h1]
    by_cases h2 : x = b
    · rw [if_pos h2, if_pos rfl, h2]
    · rw [if_neg h2, if_neg h1, if_neg h2]
theorem swN_lt {a b n x : Nat} (ha : a < n) (hb : b < n) : swN a b x < n ↔ x < n := by
  unfold swN
  split
  · omega
  · split <;> omega
/-- a list whose members a and b are exchanged -/
def swL {α : Type} [Inhabited α] (a b : Nat) (l : List α) : List α := (List.range l.length).map fun i => l.getD (swN a b i) default
theorem swL_len {α : Type} [Inhabited α] (a b : Nat) (l : List α) : (swL a b l).length = l.length := by simp [swL]
theorem swL_get {α : Type} [Inhabited α] {a b : Nat} {l : List α} {i : Nat} (h : i < l.length) : (swL a b l).getD i default = l.getD (swN a b i) default := by
  unfold swL
  simp [List.getD, h]
theorem sw_perm {a b n : Nat} (ha : a < n) (hb : b < n) : ((List.range n).map (swN a b)).Perm (List.range n) := by
  refine (List.perm_ext_iff_of_nodup ?_ List.nodup_range).2 fun x => ?_
  · unfold List.Nodup
    rw [List.pairwise_map]
    exact List.nodup_range.imp fun {x y} hxy e => hxy (by have := congrArg (swN a b) e; rwa [swN_swN, swN_swN] at this)
  · rw [List.mem_map, List.mem_range]
    constructor
    · rintro ⟨y, hy, rfl⟩
      exact (swN_lt ha hb).2 (List.mem_range.1 hy)
    · intro hx
      exact ⟨swN a b x, List.mem_range.2 ((swN_lt ha hb).2 hx), swN_swN a b x⟩
theorem range_getD {α : Type} [Inhabited α] (l : List α) : (List.range l.length).map (fun i => l.getD i default) = l := by
  apply List.ext_getElem
  · simp
  · intro i h1 h2
    simp [List.getD, h2]
theorem swL_perm {α : Type} [Inhabited α] {a b : Nat} {l : List α} (ha : a < l.length) (hb : b < l.length) : (swL a b l).Perm l := by
  have h := (sw_perm ha hb).map fun i => l.getD i default
  rw [range_getD, List.map_map] at h
  exact h
/-- two duties exchanged in a plan, a literal, a step -/
def renP (a b : Nat) (p : Pl) : Pl := { p with duties := swL a b p.duties }
theorem swL_zip {a b : Nat} {ro : List Int} {ds : List Du} (h : ro.length = ds.length) (ha : a < ro.length) (hb : b < ro.length) : (swL a b ro).zip (swL a b ds) = swL a b (ro.zip ds) := by
  apply List.ext_getElem
  · rw [List.length_zip, swL_len, swL_len, swL_len, List.length_zip]
  · intro i h1 h2
    have hi : i < ro.length := by rw [List.length_zip, swL_len, swL_len] at h1; omega
    have hs := (swN_lt (x := i) ha hb).2 hi
    rw [List.getElem_zip]
    have e1 : ∀ {α : Type} [Inhabited α] (l : List α) (h : i < (swL a b l).length), (swL a b l)[i] = l.getD (swN a b i) default := fun l h => by simp [swL]
    rw [e1, e1, e1]
    have hz : swN a b i < (ro.zip ds).length := by rw [List.length_zip]; omega
    simp only [List.getD, List.getElem?_eq_getElem hs, List.getElem?_eq_getElem (by omega : swN a b i < ds.length), List.getElem?_eq_getElem hz, Option.getD_some, List.getElem_zip]
theorem valid_ren {a b : Nat} {p : Pl} (ha : a < p.duties.length) (hb : b < p.duties.length) : validP (renP a b p) = validP p := by
  have e : (renP a b p).duties.all (dutyOk (renP a b p)) = p.duties.all (dutyOk p) := by
    rw [Bool.eq_iff_iff, List.all_eq_true, List.all_eq_true]
    have hp := swL_perm ha hb
    exact ⟨fun h d hd => h d (hp.mem_iff.2 hd), fun h d hd => h d (hp.mem_iff.1 hd)⟩
  unfold validP
  rw [e]
  have e2 : (renP a b p).duties.length = p.duties.length := swL_len _ _ _
  rw [e2]
  rfl
theorem restR_symm (x y : Du) : restR x y = restR y x := by
  unfold restR
  rw [Bool.and_comm]
  by_cases h : (duB y && duB x) = true
  · rw [if_pos h, if_pos h]
    rw [Bool.and_eq_true_iff] at h
    have h1 := h.1
    have h2 := h.2
    unfold duB at h1 h2
    rw [decide_eq_true_eq] at h1 h2
    split <;> split <;> omega
  · rw [if_neg h, if_neg h]
theorem mine_ren {a b : Nat} {ro : List Int} {w : Int} (ha : a < ro.length) (hb : b < ro.length) : (mineR (swL a b ro) w).Perm ((mineR ro w).map (swN a b)) := by
  refine (List.perm_ext_iff_of_nodup (List.nodup_range.filter _) ?_).2 fun x => ?_
  · unfold List.Nodup
    rw [List.pairwise_map]
    exact (List.nodup_range.filter _ : (mineR ro w).Nodup).imp fun {x y} hxy e => hxy (by have := congrArg (swN a b) e; rwa [swN_swN, swN_swN] at this)
  · show x ∈ mineR (swL a b ro) w ↔ _
    rw [mine_memL, swL_len, List.mem_map]
    constructor
    · rintro ⟨h1, h2⟩
      rw [swL_get h1] at h2
      exact ⟨swN a b x, mine_memL.2 ⟨(swN_lt ha hb).2 h1, h2⟩, swN_swN a b x⟩
    · rintro ⟨y, hy, rfl⟩
      obtain ⟨h1, h2⟩ := mine_memL.1 hy
      have h3 := (swN_lt (x := y) ha hb).2 h1
      exact ⟨h3, by rw [swL_get h3, swN_swN]; exact h2⟩
theorem violK_ren {a b : Nat} {p : Pl} {x : Wk} {ro : List Int} {w : Int} (h : ro.length = p.duties.length) (ha : a < p.duties.length) (hb : b < p.duties.length) : violK (renP a b p) x (mineR (swL a b ro) w) = violK p x (mineR ro w) := by
  have hp := mine_ren (w := w) (by omega : a < ro.length) (by omega : b < ro.length)
  have hlt : ∀ d ∈ mineR ro w, d < p.duties.length := fun d hd => by have := (mine_memL.1 hd).1; omega
  generalize mineR (swL a b ro) w = n at *
  generalize mineR ro w = m at *
  have hg : ∀ d ∈ m, (renP a b p).duties.getD (swN a b d) default = p.duties.getD d default := fun d hd => by
    show (swL a b p.duties).getD (swN a b d) default = _
    rw [swL_get ((swN_lt ha hb).2 (hlt d hd)), swN_swN]
  have h1 : unB (renP a b p) x n = unB p x m := by
    unfold unB
    rw [any_perm hp, List.any_map, Bool.eq_iff_iff, List.any_eq_true, List.any_eq_true]
    have key : ∀ d ∈ m, ((fun d => unD (renP a b p) x ((renP a b p).duties.getD d default)) ∘ swN a b) d = unD p x (p.duties.getD d default) := fun d hd => by
      simp only [Function.comp]
      rw [hg d hd]
      rfl
    exact ⟨fun ⟨d, hd, hf⟩ => ⟨d, hd, by rw [← key d hd]; exact hf⟩, fun ⟨d, hd, hf⟩ => ⟨d, hd, by rw [key d hd]; exact hf⟩⟩
  have h2 : restA (renP a b p) n = restA p m := by
    have hf : restA (renP a b p) n = false ↔ restA p m = false := by
      rw [restA_f, restA_f]
      have hsy : ∀ {d e : Nat}, restB (renP a b p) d e = false → restB (renP a b p) e d = false := fun {d e} hde => by
        unfold restB at *
        rw [restR_symm]
        exact hde
      rw [hp.pairwise_iff (fun {_ _} h => hsy h), List.pairwise_map]
      have key : ∀ d e, d ∈ m → e ∈ m → restB (renP a b p) (swN a b d) (swN a b e) = restB p d e := fun d e hd he => by
        unfold restB
        rw [hg d hd, hg e he]
        rfl
      constructor
      · exact fun hh => (List.Pairwise.and_mem.1 hh).imp fun {d e} ⟨hd, he, hde⟩ => by rw [← key d e hd he]; exact hde
      · exact fun hh => (List.Pairwise.and_mem.1 hh).imp fun {d e} ⟨hd, he, hde⟩ => by rw [key d e hd he]; exact hde
    cases h3 : restA p m with
    | false => exact hf.2 h3
    | true =>
      cases h4 : restA (renP a b p) n with
      | false => rw [hf.1 h4] at h3; cases h3
      | true => rfl
  have h3 : ovB (renP a b p) x n = ovB p x m := by
    refine ov_of rfl ?_
    rw [trip_map, trip_map]
    refine (hp.flatMap_right _).trans ?_
    rw [List.flatMap_map]
    have : m.flatMap (fun d => minsD (renP a b p) ((renP a b p).duties.getD (swN a b d) default)) = m.flatMap fun d => minsD p (p.duties.getD d default) := by
      unfold List.flatMap
      congr 1
      exact List.map_congr_left fun d hd => by rw [hg d hd]; rfl
    rw [this]
  unfold violK
  rw [h1, h2, h3]
theorem swL_swL {α : Type} [Inhabited α] {a b : Nat} {l : List α} (ha : a < l.length) (hb : b < l.length) : swL a b (swL a b l) = l := by
  refine List.ext_getElem (by rw [swL_len, swL_len]) fun i h1 h2 => ?_
  have hs := (swN_lt (x := i) ha hb).2 h2
  have e : (swL a b (swL a b l))[i] = (swL a b (swL a b l)).getD i default := by simp [List.getD, h1]
  rw [e, swL_get (by rw [swL_len]; exact h2), swL_get hs, swN_swN]
  simp [List.getD, h2]
theorem costP_zip {p : Pl} : ∀ {ro : List Int} {ds : List Du}, costP p ro ds = ((ro.zip ds).map fun q : Int × Du => if 0 ≤ q.1 then (p.workers.getD q.1.toNat default).wage * (q.2.to_ - q.2.frm) else 0).sum
  | w :: ro, d :: ds => by
    rw [costP, costP_zip (ro := ro) (ds := ds), List.zip_cons_cons, List.map_cons, List.sum_cons]
  | [], _ => by simp [costP]
  | _ :: _, [] => by simp [costP]
theorem cost_ren {a b : Nat} {p : Pl} {ro : List Int} (h : ro.length = p.duties.length) (ha : a < p.duties.length) (hb : b < p.duties.length) : costP (renP a b p) (swL a b ro) (renP a b p).duties = costP p ro p.duties := by
  rw [costP_zip, costP_zip]
  show (((swL a b ro).zip (swL a b p.duties)).map _).sum = _
  rw [swL_zip h (by omega) (by omega)]
  exact perm_sumI ((swL_perm (by rw [List.length_zip]; omega) (by rw [List.length_zip]; omega)).map _)
theorem work_ren {a b : Nat} {p : Pl} {ro : List Int} (h : ro.length = p.duties.length) (ha : a < p.duties.length) (hb : b < p.duties.length) : workB (renP a b p) (swL a b ro) = workB p ro := by
  rw [Bool.eq_iff_iff, workB_iff, workB_iff]
  have key : ∀ w, violW (renP a b p) w (mineR (swL a b ro) w) = [] ↔ violW p w (mineR ro w) = [] := fun w => by
    rw [← violK_f, ← violK_f, ← violK_ren (x := p.workers.getD w default) (w := w) h ha hb]
    rfl
  exact ⟨fun hh w hw => (key w).1 (hh w hw), fun hh w hw => (key w).2 (hh w hw)⟩
theorem all_ren {a b : Nat} {p : Pl} {ro : List Int} (ha : a < p.duties.length) (hb : b < p.duties.length) (h : ro ∈ allR p) : swL a b ro ∈ allR (renP a b p) := by
  have := all_mem.1 h
  refine all_mem.2 ⟨?_, fun w hw => this.2 w ((swL_perm (by omega) (by omega)).mem_iff.1 hw)⟩
  rw [swL_len]
  show _ = (swL a b p.duties).length
  rw [swL_len]
  exact this.1
theorem best_ren1 {a b : Nat} {p : Pl} (ha : a < p.duties.length) (hb : b < p.duties.length) (hf : (bestC p).found = true) : (bestC (renP a b p)).found = true ∧ (bestC (renP a b p)).cost ≤ (bestC p).cost :=
  best_le (fun ro hr hw => ⟨swL a b ro, all_ren ha hb hr, by rw [work_ren (all_mem.1 hr).1 ha hb]; exact hw, Int.le_of_eq (cost_ren (all_mem.1 hr).1 ha hb)⟩) hf
theorem renP_renP {a b : Nat} {p : Pl} (ha : a < p.duties.length) (hb : b < p.duties.length) : renP a b (renP a b p) = p := by
  cases p
  unfold renP
  dsimp only at *
  rw [swL_swL ha hb]
theorem best_ren {a b : Nat} {p : Pl} (ha : a < p.duties.length) (hb : b < p.duties.length) : (bestC (renP a b p)).found = (bestC p).found ∧ ((bestC p).found = true → (bestC (renP a b p)).cost = (bestC p).cost) := by
  have e : (renP a b p).duties.length = p.duties.length := swL_len _ _ _
  have h1 := best_ren1 (p := p) ha hb
  have h2 := best_ren1 (a := a) (b := b) (p := renP a b p) (by rw [e]; exact ha) (by rw [e]; exact hb)
  rw [renP_renP ha hb] at h2
  constructor
  · rw [Bool.eq_iff_iff]
    exact ⟨fun h => (h2 h).1, fun h => (h1 h).1⟩
  · exact fun h => Int.le_antisymm (h1 h).2 (h2 (h1 h).1).2
end Go.Wage
