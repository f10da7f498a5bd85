/-
  The plain laws of RosterRest and RosterTime.
  Conditions: those of each theorem.
-/
import Derived.Test.YtlnokdkhglmogaaGreatLC
namespace Go.Proofs.YtlnokdkhglmogaaGreat
open Go.E2 Go.Wage
/-! rests -/
def badPr (p : Pl) (ro : List Int) (i k : Nat) : Bool := decide (0 ≤ ro.getD i default) && (decide (ro.getD i default = ro.getD k default) && restB p i k)
theorem restL_mem {p : Pl} {w : Int} : ∀ {l : List Nat}, l.Pairwise (· < ·) → ∀ v, v ∈ restL p w l ↔ ∃ d ∈ l, ∃ e ∈ l, d < e ∧ restB p d e = true ∧ v = ⟨3, w, d, e⟩
  | [], _, v => by simp [restL]
  | d :: l, h, v => by
    rw [List.pairwise_cons] at h
    rw [restL, List.mem_append, restL_mem h.2 v]
    constructor
    · rintro (h1 | ⟨a, ha, b, hb, h1⟩)
      · obtain ⟨e, he, rfl⟩ := List.mem_map.1 h1
        rw [List.mem_filter] at he
        exact ⟨d, by simp, e, by simp [he.1], h.1 e he.1, he.2, rfl⟩
      · exact ⟨a, by simp [ha], b, by simp [hb], h1⟩
    · rintro ⟨a, ha0, b, hb0, h1, h2, rfl⟩
      rcases List.mem_cons.1 hb0 with hb | hb
      · rcases List.mem_cons.1 ha0 with ha | ha
        · omega
        · have := h.1 a ha; omega
      · rcases List.mem_cons.1 ha0 with ha | ha
        · left
          rw [ha] at h2 ⊢
          exact List.mem_map.2 ⟨b, List.mem_filter.2 ⟨hb, h2⟩, rfl⟩
        · exact .inr ⟨a, ha, b, hb, h1, h2, rfl⟩
theorem mineR_asc (ro : List Int) (w : Int) : (mineR ro w).Pairwise (· < ·) := List.pairwise_lt_range.filter _
theorem mineR_iff {ro : List Int} {w : Int} {d : Nat} : d ∈ mineR ro w ↔ d < ro.length ∧ ro.getD d default = w := by
  unfold mineR
  rw [List.mem_filter, List.mem_range, decide_eq_true_eq]
theorem bad3 {p : Pl} {ro : List Int} (hk : okRo p ro = true) {v : Vi} : (v ∈ badP p ro ∧ v.kind = 3) ↔ ∃ i k, i < k ∧ k < ro.length ∧ badPr p ro i k = true ∧ v = ⟨3, ro.getD i default, i, k⟩ := by
  unfold okRo at hk
  rw [Bool.and_eq_true_iff] at hk
  have hr := isRo_iff.1 hk.2
  rw [mem_badP]
  constructor
  · rintro ⟨⟨w, hw, hv⟩, h3⟩
    have h : v ∈ restL p w (mineR ro w) := by
      unfold violW at hv
      simp only [List.mem_append] at hv
      rcases hv with h | h | h | h | h | h
      · have := (sing_kind h).1; omega
      · have := (sing_kind h).1; omega
      · exact h
      · have := (weekL_kind h).1; omega
      · have := (sing_kind (ite_mem h)).1; omega
      · have := (minL_kind (ite_mem h)).1; omega
    obtain ⟨d, hd, e, he, h1, h2, rfl⟩ := (restL_mem (mineR_asc _ _) v).1 h
    rw [mineR_iff] at hd he
    refine ⟨d, e, h1, he.1, ?_, by rw [hd.2]⟩
    unfold badPr
    rw [hd.2, he.2, h2]
    simp
  · rintro ⟨i, k, h1, h2, h3, rfl⟩
    unfold badPr at h3
    simp only [Bool.and_eq_true, decide_eq_true_eq] at h3
    have hi := hr.2 _ (getD_mem (l := ro) (k := i) (by omega))
    refine ⟨⟨(ro.getD i default).toNat, by omega, ?_⟩, rfl⟩
    have hw : (((ro.getD i default).toNat : Nat) : Int) = ro.getD i default := by omega
    unfold violW
    simp only [List.mem_append]
    refine .inr (.inr (.inl ?_))
    rw [hw, restL_mem (mineR_asc _ _)]
    exact ⟨i, mineR_iff.2 ⟨by omega, rfl⟩, k, mineR_iff.2 ⟨h2, h3.2.1.symm⟩, h1, h3.2.2, rfl⟩
abbrev K2 := Int × Int
/-- the pairs of the violations of kind 3, each counted once -/
def kk (l : List Vi) : List (K2 × Int) := (l.filter fun v => decide (v.kind = 3)).map fun v => ((v.fst, v.snd), 1)
theorem kk_step {l : List Vi} {j : Nat} (h : j < l.length) : kk (l.take (j + 1)) = kk (l.take j) ++ if (l.getD j default).kind = 3 then [(((l.getD j default).fst, (l.getD j default).snd), 1)] else [] := by
  unfold kk
  rw [List.take_succ_eq_append_getElem h, List.filter_append, List.map_append, ← getD_at h, List.filter_cons]
  by_cases e : (l.getD j default).kind = 3
  · rw [if_pos (decide_eq_true e), if_pos e]; rfl
  · rw [if_neg (by simpa using e), if_neg e]; rfl
theorem kk_mem {l : List Vi} {x : K2} : x ∈ (kk l).map (·.1) ↔ ∃ v ∈ l, v.kind = 3 ∧ (v.fst, v.snd) = x := by
  unfold kk
  rw [List.map_map, List.mem_map]
  constructor
  · rintro ⟨v, h1, h2⟩
    rw [List.mem_filter, decide_eq_true_eq] at h1
    exact ⟨v, h1.1, h1.2, h2⟩
  · rintro ⟨v, h1, h2, h3⟩
    exact ⟨v, List.mem_filter.2 ⟨h1, decide_eq_true h2⟩, h3⟩
theorem kk_lk {l : List Vi} {x : K2} : ((lk x (kk l)).getD 0 = 1 ↔ x ∈ (kk l).map (·.1)) ∧ (x ∉ (kk l).map (·.1) → lk x (kk l) = none) := by
  have hv : ∀ {M : List (K2 × Int)}, (∀ q ∈ M, q.2 = 1) → ((lk x M).getD 0 = 1 ↔ x ∈ M.map (·.1)) := by
    intro M
    induction M with
    | nil => intro _; simp [lk]
    | cons q M ih =>
      intro h
      have ih := ih fun r hr => h r (by simp [hr])
      rw [lk, List.map_cons, List.mem_cons]
      by_cases e : x = q.1
      · rw [if_pos e, Option.getD_some, h q (by simp)]; simp [e]
      · rw [if_neg e, ih]; simp [e]
  refine ⟨hv fun q hq => ?_, fun h => ?_⟩
  · unfold kk at hq
    obtain ⟨v, _, rfl⟩ := List.mem_map.1 hq
    rfl
  · rw [lk_key] at h
    simpa using h
theorem kk_new {l : List Vi} (h : l.Nodup) (hd : ∀ a ∈ l, ∀ b ∈ l, a.kind = 3 → b.kind = 3 → a.fst = b.fst → a.snd = b.snd → a = b) {j : Nat} (hj : j < l.length) (h3 : (l.getD j default).kind = 3) : lk ((l.getD j default).fst, (l.getD j default).snd) (kk (l.take j)) = none := by
  refine kk_lk.2 fun hm => ?_
  obtain ⟨v, h1, h2, h4⟩ := kk_mem.1 hm
  injection h4 with h5 h6
  have e := hd v (List.mem_of_mem_take h1) _ (getD_mem hj) h2 h3 h5 h6
  obtain ⟨i, hi, he⟩ := List.mem_iff_getElem.1 h1
  rw [List.length_take] at hi
  rw [List.getElem_take] at he
  have := (List.nodup_iff_pairwise_ne.1 h)
  have := List.pairwise_iff_getElem.1 this i j (by omega) hj (by omega)
  rw [getD_at hj] at e
  exact this (by rw [he, e])
theorem kk_ups {l : List Vi} (h : l.Nodup) (hd : ∀ a ∈ l, ∀ b ∈ l, a.kind = 3 → b.kind = 3 → a.fst = b.fst → a.snd = b.snd → a = b) {j : Nat} (hj : j < l.length) (h3 : (l.getD j default).kind = 3) : ups ((l.getD j default).fst, (l.getD j default).snd) 1 (kk (l.take j)) = kk (l.take (j + 1)) := by
  rw [kk_step hj, if_pos h3]
  have hn := kk_new h hd hj h3
  cases hx : kidx ((l.getD j default).fst, (l.getD j default).snd) (kk (l.take j)) with
  | none => exact (idx_none hx).2 1
  | some i =>
    obtain ⟨_, v, _, h2⟩ := idx_lt hx
    rw [hn] at h2; cases h2
def prs (p : Pl) (ro : List Int) (i : Nat) : List (Nat × Nat) := (List.range i).flatMap fun a => ((List.range ro.length).filter fun b => decide (a < b) && badPr p ro a b).map fun b => (a, b)
def rowN (p : Pl) (ro : List Int) (i k : Nat) : Nat := ((List.range k).filter fun b => decide (i < b) && badPr p ro i b).length
theorem rowN_zero (p : Pl) (ro : List Int) (i : Nat) : rowN p ro i (i + 1) = 0 := by
  unfold rowN
  rw [List.length_eq_zero_iff, List.filter_eq_nil_iff]
  intro b hb
  rw [List.mem_range] at hb
  simp only [Bool.and_eq_true, decide_eq_true_eq, not_and]
  omega
theorem rowN_succ (p : Pl) (ro : List Int) {i k : Nat} (h : i < k) : rowN p ro i (k + 1) = rowN p ro i k + if badPr p ro i k = true then 1 else 0 := by
  unfold rowN
  rw [List.range_succ, List.filter_append, List.length_append, List.filter_cons]
  by_cases e : badPr p ro i k = true
  · rw [if_pos (by rw [e]; simp [h]), if_pos e]; rfl
  · rw [if_neg (by simp [e]), if_neg e]; rfl
theorem rowN_le (p : Pl) (ro : List Int) (i k : Nat) : rowN p ro i k ≤ k := by
  unfold rowN
  refine Nat.le_trans (List.length_filter_le _ _) ?_
  simp
theorem prs_succ (p : Pl) (ro : List Int) (i : Nat) : (prs p ro (i + 1)).length = (prs p ro i).length + rowN p ro i ro.length := by
  unfold prs rowN
  rw [List.range_succ, List.flatMap_append, List.length_append]
  simp
theorem prs_le (p : Pl) (ro : List Int) : ∀ i, (prs p ro i).length ≤ i * ro.length
  | 0 => by simp [prs]
  | i + 1 => by
    have := prs_le p ro i
    have := rowN_le p ro i ro.length
    rw [prs_succ, Nat.succ_mul]
    omega
theorem prs_mem {p : Pl} {ro : List Int} {n : Nat} {x : Nat × Nat} : x ∈ prs p ro n ↔ x.1 < n ∧ x.1 < x.2 ∧ x.2 < ro.length ∧ badPr p ro x.1 x.2 = true := by
  unfold prs
  simp only [List.mem_flatMap, List.mem_range, List.mem_map, List.mem_filter, Bool.and_eq_true, decide_eq_true_eq]
  constructor
  · rintro ⟨a, h1, b, h2, rfl⟩
    exact ⟨h1, h2.2.1, h2.1, h2.2.2⟩
  · rintro ⟨h1, h2, h3, h4⟩
    exact ⟨x.1, h1, x.2, ⟨h3, h2, h4⟩, rfl⟩
theorem prs_nodup (p : Pl) (ro : List Int) : ∀ n, (prs p ro n).Nodup
  | 0 => by simp [prs]
  | n + 1 => by
    have ih := prs_nodup p ro n
    have e : prs p ro (n + 1) = prs p ro n ++ ((List.range ro.length).filter fun b => decide (n < b) && badPr p ro n b).map fun b => (n, b) := by
      unfold prs
      rw [List.range_succ, List.flatMap_append]
      simp
    rw [e, List.nodup_append]
    refine ⟨ih, ?_, fun a ha b hb hab => ?_⟩
    · exact (List.nodup_range.filter _).map (fun b => (n, b)) fun a b h1 h2 => h1 (by injection h2)
    · subst hab
      have := (prs_mem.1 ha).1
      obtain ⟨c, _, rfl⟩ := List.mem_map.1 hb
      simp at this
/-- what the walk of RosterRest needs -/
theorem bad_det {p : Pl} {ro : List Int} (hk : okRo p ro = true) : ∀ a ∈ badP p ro, ∀ b ∈ badP p ro, a.kind = 3 → b.kind = 3 → a.fst = b.fst → a.snd = b.snd → a = b := by
  intro a ha b hb h1 h2 h3 h4
  obtain ⟨i, k, _, _, _, rfl⟩ := (bad3 hk).1 ⟨ha, h1⟩
  obtain ⟨i', k', _, _, _, rfl⟩ := (bad3 hk).1 ⟨hb, h2⟩
  simp only at h3 h4
  obtain rfl : i = i' := by omega
  obtain rfl : k = k' := by omega
  rfl
theorem bad_nodup (p : Pl) (ro : List Int) : (badP p ro).Nodup := (canV_ord _).imp fun {a b} h e => by subst e; exact ltV_irr _ h
theorem kk_iff {p : Pl} {ro : List Int} (hk : okRo p ro = true) {i k : Nat} (h1 : i < k) (h2 : k < ro.length) : (lk ((i : Int), (k : Int)) (kk (badP p ro))).getD 0 = 1 ↔ badPr p ro i k = true := by
  rw [kk_lk.1, kk_mem]
  constructor
  · rintro ⟨v, h3, h4, h5⟩
    obtain ⟨a, b, h6, h7, h8, rfl⟩ := (bad3 hk).1 ⟨h3, h4⟩
    injection h5 with h9 h10
    simp only at h9 h10
    obtain rfl : a = i := by omega
    obtain rfl : b = k := by omega
    exact h8
  · intro h
    have := (bad3 hk).2 ⟨i, k, h1, h2, h, rfl⟩
    exact ⟨_, this.1, rfl, rfl⟩
theorem kk_len {p : Pl} {ro : List Int} (hk : okRo p ro = true) : (kk (badP p ro)).length = (prs p ro ro.length).length := by
  have h1 : ((kk (badP p ro)).map (·.1)).Nodup := by
    unfold kk
    rw [List.map_map]
    have hn := (bad_nodup p ro).filter fun v => decide (v.kind = 3)
    rw [List.Nodup, List.pairwise_map]
    refine List.Pairwise.imp_of_mem (fun {a b} ha hb h e => ?_) hn
    rw [List.mem_filter, decide_eq_true_eq] at ha hb
    injection e with e1 e2
    exact h (bad_det hk a ha.1 b hb.1 ha.2 hb.2 e1 e2)
  have h2 : ((prs p ro ro.length).map fun x => ((x.1 : Int), (x.2 : Int))).Nodup :=
    (prs_nodup p ro ro.length).map _ fun a b h e => h (by
      injection e with e1 e2
      exact Prod.ext (by omega) (by omega))
  have hp : ((kk (badP p ro)).map (·.1)).Perm ((prs p ro ro.length).map fun x => ((x.1 : Int), (x.2 : Int))) := by
    refine (List.perm_ext_iff_of_nodup h1 h2).2 fun x => ?_
    rw [kk_mem, List.mem_map]
    constructor
    · rintro ⟨v, h3, h4, rfl⟩
      obtain ⟨i, k, h5, h6, h7, rfl⟩ := (bad3 hk).1 ⟨h3, h4⟩
      exact ⟨(i, k), prs_mem.2 ⟨by simp only; omega, h5, h6, h7⟩, rfl⟩
    · rintro ⟨y, h3, rfl⟩
      obtain ⟨_, h5, h6, h7⟩ := prs_mem.1 h3
      have := (bad3 hk).2 ⟨y.1, y.2, h5, h6, h7, rfl⟩
      exact ⟨_, this.1, rfl, rfl⟩
  simpa using hp.length_eq
/-! plans moved by whole days -/
def movD (k : Int) (d : Du) : Du := ⟨d.frm + k, d.to_ + k, d.skill⟩
def movS (k : Int) (s : Sp) : Sp := (s.1 + k, s.2 + k)
def movW (k : Int) (w : Wk) : Wk := { w with away := w.away.map (movS k) }
def movP (k : Int) (p : Pl) : Pl := { p with duties := p.duties.map (movD k), workers := p.workers.map (movW k) }
def movX (k : Int) (X : List (Sp × Int)) : List (Sp × Int) := X.map fun s => (movS k s.1, s.2)
theorem strZ_mov (off a b k : Int) : strZ off [] (a + k) (b + k) = movX k (strZ off [] a b) := by
  rw [strZ, strZ]
  by_cases h : a < b
  · rw [if_pos h, if_pos (by omega)]; rfl
  · rw [if_neg h, if_neg (by omega)]; rfl
theorem dyZ_mov (X : List (Sp × Int)) (d n : Int) : dyZ (movX (1440 * n) X) (d + n) = dyZ X d := by
  unfold dyZ movX
  rw [List.map_map]
  congr 1
  refine List.map_congr_left fun s _ => ?_
  simp only [Function.comp_apply, movS]
  unfold dayM
  omega
theorem prtZ_mov (X : List (Sp × Int)) (n : Int) : ∀ (m : Nat) (lo : Int), prtZ (movX (1440 * n) X) (lo + n) m = (prtZ X lo m).map fun q => (q.1 + n, q.2)
  | 0, _ => rfl
  | m + 1, lo => by
    rw [prtZ, prtZ, dyZ_mov, show lo + n + 1 = lo + 1 + n by omega, prtZ_mov X n m (lo + 1), List.map_append]
    congr 1
    split <;> rfl
theorem minsD_mov {p : Pl} (hz : p.zone.chs = []) (n : Int) (d : Du) : minsD (movP (1440 * n) p) (movD (1440 * n) d) = (minsD p d).map fun q => (q.1 + n, q.2) := by
  unfold minsD splitZ
  have e : (movP (1440 * n) p).zone = p.zone := rfl
  rw [e, hz]
  simp only [movD]
  rw [strZ_mov]
  unfold prt
  rw [show (d.frm + 1440 * n - 840) / 1440 = (d.frm - 840) / 1440 + n by omega, show (d.to_ + 1440 * n + 840) / 1440 = (d.to_ + 840) / 1440 + n by omega]
  rw [show (d.to_ + 840) / 1440 + n - ((d.frm - 840) / 1440 + n) = (d.to_ + 840) / 1440 - (d.frm - 840) / 1440 by omega]
  exact prtZ_mov _ _ _ _
theorem nightD_mov {p : Pl} (hz : p.zone.chs = []) (n : Int) (d : Du) : nightD (movP (1440 * n) p) (movD (1440 * n) d) = nightD p d := by
  unfold nightD dStr
  have e : (movP (1440 * n) p).zone = p.zone := rfl
  have e2 : (movP (1440 * n) p).lim = p.lim := rfl
  rw [e, e2, hz]
  simp only [movD]
  rw [strZ_mov, strZ]
  split
  · rename_i h
    simp only [movX, winZ, List.map_cons, List.map_nil, movS, List.sum_cons, List.sum_nil]
    congr 1
    unfold winM
    rw [show d.frm + 1440 * n + p.zone.base = d.frm + p.zone.base + 1440 * n by omega, show d.to_ + 1440 * n + p.zone.base = d.to_ + p.zone.base + 1440 * n by omega]
    exact (cnt_shift (p := fun x => inW p.lim.night (x % 1440)) (q := fun x => inW p.lim.night (x % 1440)) (d := 1440 * n) (fun x _ _ => by rw [show (x + 1440 * n) % 1440 = x % 1440 by omega]) (by omega)).symm
  · rfl
def movT (n : Int) (T : Tri) : Tri := T.map fun t => (t.1, t.2.1 + n, t.2.2)
theorem sumT_mov (n : Int) (T : Tri) (day : Int) : sumT (movT n T) (day + n) = sumT T day := by
  unfold sumT movT
  rw [List.map_map]
  congr 1
  refine List.map_congr_left fun t _ => ?_
  simp only [Function.comp_apply]
  by_cases h : t.2.1 = day
  · rw [if_pos h, if_pos (by omega)]
  · rw [if_neg h, if_neg (by omega)]
theorem dutT_mov (n : Int) (T : Tri) (day : Int) : dutT (movT n T) (day + n) = dutT T day := by
  unfold dutT movT
  rw [List.filter_map, List.map_map]
  have : (T.filter ((fun t : Nat × Int × Int => decide (t.2.1 = day + n)) ∘ fun t => (t.1, t.2.1 + n, t.2.2))) = T.filter fun t => decide (t.2.1 = day) := by
    refine List.filter_congr fun t _ => ?_
    simp only [Function.comp_apply]
    rw [decide_eq_decide]
    omega
  rw [this]
  rfl
theorem week7_mov (n : Int) (T : Tri) (day : Int) : week7 (movT n T) (day + n) = week7 T day := by
  unfold week7
  congr 1
  refine List.map_congr_left fun i _ => ?_
  rw [show day + n + (i : Int) = day + i + n by omega, sumT_mov]
theorem days_mov (n : Int) (T : Tri) : (movT n T).map (·.2.1) = (T.map (·.2.1)).map (· + n) := by
  unfold movT
  rw [List.map_map, List.map_map]
  rfl
theorem weekL_mov (n k : Int) (p : Pl) (w : Int) (T : Tri) : weekL (movP k p) w (movT n T) = weekL p w T := by
  unfold weekL
  rw [days_mov, List.filter_map, List.map_map]
  have e : (movP k p).lim = p.lim := rfl
  have h1 : ((fun day => decide ((movP k p).lim.week < week7 (movT n T) day)) ∘ (· + n)) = fun day => decide (p.lim.week < week7 T day) := by
    funext day
    simp only [Function.comp_apply]
    rw [week7_mov, e]
  rw [h1]
  refine List.map_congr_left fun day _ => ?_
  simp only [Function.comp_apply, loT]
  rw [dutT_mov]
theorem minL_mov (n k : Int) (p : Pl) (w : Int) (T : Tri) : minL (movP k p) w (movT n T) = minL p w T := by
  unfold minL
  rw [days_mov, List.filter_map, List.map_map]
  have e : (movP k p).lim = p.lim := rfl
  have h1 : ((fun day => decide ((movP k p).lim.minor < sumT (movT n T) day)) ∘ (· + n)) = fun day => decide (p.lim.minor < sumT T day) := by
    funext day
    simp only [Function.comp_apply]
    rw [sumT_mov, e]
  rw [h1]
  refine List.map_congr_left fun day _ => ?_
  simp only [Function.comp_apply, loT, hiT]
  rw [dutT_mov]
theorem movP_du {p : Pl} {k : Int} {d : Nat} (h : d < p.duties.length) : (movP k p).duties.getD d default = movD k (p.duties.getD d default) := by
  have h2 : d < (movP k p).duties.length := by simpa [movP] using h
  rw [getD_at h2, getD_at h]
  simp [movP]
theorem movP_wk {p : Pl} {k : Int} {w : Nat} (h : w < p.workers.length) : (movP k p).workers.getD w default = movW k (p.workers.getD w default) := by
  have h2 : w < (movP k p).workers.length := by simpa [movP] using h
  rw [getD_at h2, getD_at h]
  simp [movP]
theorem trip_mov {p : Pl} (hz : p.zone.chs = []) (n : Int) {l : List Nat} (hl : ∀ d ∈ l, d < p.duties.length) : trip (movP (1440 * n) p) l = movT n (trip p l) := by
  unfold trip movT
  rw [List.map_flatMap]
  unfold List.flatMap
  congr 1
  refine List.map_congr_left fun d hd => ?_
  rw [movP_du (hl d hd), minsD_mov hz, List.map_map, List.map_map]
  rfl
theorem duB_of {p : Pl} (hv : validP p = true) {d : Nat} (h : d < p.duties.length) : duB (p.duties.getD d default) = true := by
  have h1 := List.all_eq_true.1 (validP_iff.1 hv).2.2.2.1 _ (getD_mem (l := p.duties) h)
  unfold dutyOk at h1
  exact (Bool.and_eq_true_iff.1 h1).1
theorem restB_mov {p : Pl} {k : Int} (hv : validP p = true) (hv2 : validP (movP k p) = true) {d e : Nat} (hd : d < p.duties.length) (he : e < p.duties.length) : restB (movP k p) d e = restB p d e := by
  have a1 := duB_of hv hd
  have a2 := duB_of hv he
  have b1 := duB_of hv2 (d := d) (by simpa [movP] using hd)
  have b2 := duB_of hv2 (d := e) (by simpa [movP] using he)
  rw [movP_du hd] at b1
  rw [movP_du he] at b2
  unfold restB
  rw [movP_du hd, movP_du he, decide_eq_decide]
  have : restR (movD k (p.duties.getD d default)) (movD k (p.duties.getD e default)) = restR (p.duties.getD d default) (p.duties.getD e default) := by
    generalize p.duties.getD e default = e at *
    generalize p.duties.getD d default = d at *
    unfold restR
    rw [a1, a2, b1, b2]
    have e1 : (movD k d).frm = d.frm + k := rfl
    have e2 : (movD k d).to_ = d.to_ + k := rfl
    have e3 : (movD k e).frm = e.frm + k := rfl
    have e4 : (movD k e).to_ = e.to_ + k := rfl
    rw [e1, e2, e3, e4, Bool.and_self, if_pos rfl, if_pos rfl]
    by_cases h : e.frm < d.frm
    · rw [if_pos h, if_pos (by omega)]; omega
    · rw [if_neg h, if_neg (by omega)]; omega
  rw [this]
  rfl
theorem meetB_mov {l : List Sp} {s : Sp} {k : Int} (h1 : ∀ t ∈ l, 0 ≤ t.1 ∧ t.2 ≤ 52596000) (h2 : ∀ t ∈ l.map (movS k), 0 ≤ t.1 ∧ t.2 ≤ 52596000) (h3 : 0 ≤ s.1 ∧ s.2 ≤ 52596000) (h4 : 0 ≤ s.1 + k ∧ s.2 + k ≤ 52596000) : meetB (l.map (movS k)) (movS k s) = meetB l s := by
  unfold meetB
  rw [List.any_map, Bool.eq_iff_iff, List.any_eq_true, List.any_eq_true]
  refine exists_congr fun t => and_congr_right fun ht => ?_
  rw [← Bool.eq_iff_iff]
  have a := h1 t ht
  have b := h2 _ (List.mem_map.2 ⟨t, ht, rfl⟩)
  have e1 : (movS k t).1 = t.1 + k := rfl
  have e2 : (movS k t).2 = t.2 + k := rfl
  have e3 : (movS k s).1 = s.1 + k := rfl
  have e4 : (movS k s).2 = s.2 + k := rfl
  rw [Function.comp_apply]
  unfold prp
  rw [e1, e2] at b
  rw [e1, e2, e3, e4]
  rw [Bool.eq_iff_iff]
  simp only [Bool.and_eq_true, decide_eq_true_eq]
  omega
theorem away_bd {p : Pl} (hv : validP p = true) {w : Nat} (h : w < p.workers.length) : ∀ t ∈ (p.workers.getD w default).away, 0 ≤ t.1 ∧ t.2 ≤ 52596000 := by
  intro t ht
  have h1 := (wkOk_iff.1 (List.all_eq_true.1 (validP_iff.1 hv).2.2.2.2.1 _ (getD_mem (l := p.workers) h)))
  have h2 := h1.2.2.2.2
  have := List.all_eq_true.1 h2 t ht
  unfold awOk at this
  simpa using this
theorem awB_mov {p : Pl} {k : Int} (hv : validP p = true) (hv2 : validP (movP k p) = true) {w d : Nat} (hw : w < p.workers.length) (hd : d < p.duties.length) : awB ((movP k p).workers.getD w default) ((movP k p).duties.getD d default) = awB (p.workers.getD w default) (p.duties.getD d default) := by
  have a1 := duB_bd (duB_of hv hd)
  have b1 := duB_bd (duB_of hv2 (d := d) (by simpa [movP] using hd))
  have a2 := away_bd hv hw
  have b2 := away_bd hv2 (w := w) (by simpa [movP] using hw)
  rw [movP_du hd] at b1 ⊢
  rw [movP_wk hw] at b2 ⊢
  simp only [movD] at b1
  unfold awB
  exact meetB_mov (s := ((p.duties.getD d default).frm, (p.duties.getD d default).to_)) a2 b2 (by simp only; omega) (by simp only; omega)
theorem sing_congr {k w : Int} {f g : Nat → Bool} {l : List Nat} (h : ∀ d ∈ l, f d = g d) : sing k w f l = sing k w g l := by
  unfold sing
  rw [List.filter_congr h]
theorem restL_congr {p q : Pl} {w : Int} : ∀ {l : List Nat}, (∀ d ∈ l, ∀ e ∈ l, restB p d e = restB q d e) → restL p w l = restL q w l
  | [], _ => rfl
  | d :: l, h => by
    rw [restL, restL, restL_congr (l := l) fun a ha b hb => h a (by simp [ha]) b (by simp [hb]), List.filter_congr fun e he => h d (by simp) e (by simp [he])]
theorem mov_bad {p : Pl} {ro : List Int} {n : Int} (hz : p.zone.chs = []) (hk : okRo p ro = true) (hk2 : okRo (movP (1440 * n) p) ro = true) : badP (movP (1440 * n) p) ro = badP p ro := by
  unfold okRo at hk hk2
  rw [Bool.and_eq_true_iff] at hk hk2
  have hr := isRo_iff.1 hk.2
  have hlen : (movP (1440 * n) p).workers.length = p.workers.length := by simp [movP]
  unfold badP violAll
  rw [hlen]
  congr 1
  unfold List.flatMap
  congr 1
  refine List.map_congr_left fun w hw => ?_
  rw [List.mem_range] at hw
  have hm : ∀ d ∈ mineR ro w, d < p.duties.length := fun d hd => by have := mineR_lt hd; omega
  unfold violW
  have hmi : ((movP (1440 * n) p).workers.getD w default).minor = (p.workers.getD w default).minor := by rw [movP_wk hw]; rfl
  rw [trip_mov hz n hm, weekL_mov, minL_mov, hmi]
  rw [sing_congr (k := 1) (g := fun d => skB (p.workers.getD w default) (p.duties.getD d default)) fun d hd => by rw [movP_wk hw, movP_du (hm d hd)]; rfl]
  rw [sing_congr (k := 2) (g := fun d => awB (p.workers.getD w default) (p.duties.getD d default)) fun d hd => awB_mov hk.1 hk2.1 hw (hm d hd)]
  rw [sing_congr (k := 5) (g := fun d => niB p (p.duties.getD d default)) fun d hd => by unfold niB; rw [movP_du (hm d hd), nightD_mov hz]]
  rw [restL_congr (q := p) fun d hd e he => restB_mov hk.1 hk2.1 (hm d hd) (hm e he)]
/-! the plan that the law makes: its numbers may wrap -/
def wmD (k : Int) (d : Du) : Du := ⟨IntKind.i64.wrap (d.frm + k), IntKind.i64.wrap (d.to_ + k), d.skill⟩
def wmS (k : Int) (s : Sp) : Sp := (IntKind.i64.wrap (s.1 + k), IntKind.i64.wrap (s.2 + k))
def wmW (k : Int) (w : Wk) : Wk := ⟨w.name, w.skill, w.minor, w.wage, w.away.map (wmS k)⟩
def wmP (k : Int) (p : Pl) : Pl := ⟨p.zone, p.duties.map (wmD k), p.workers.map (wmW k), p.lim⟩
theorem wrap_in {x : Int} (h : -9223372036854775808 ≤ x ∧ x ≤ 9223372036854775807) : IntKind.i64.wrap x = x := by
  simp [IntKind.wrap, IntKind.bits, IntKind.signed]
  omega
theorem wm_mov {p : Pl} {k : Int} (hv : validP p = true) (hk : 0 ≤ k ∧ k ≤ 1000000) : wmP k p = movP k p := by
  unfold wmP movP
  congr 1
  · refine List.map_congr_left fun d hd => ?_
    obtain ⟨i, hi, rfl⟩ := List.mem_iff_getElem.1 hd
    have := duB_bd (duB_of hv hi)
    rw [getD_at hi] at this
    unfold wmD movD
    rw [wrap_in (by omega), wrap_in (by omega)]
  · refine List.map_congr_left fun w hw => ?_
    obtain ⟨i, hi, rfl⟩ := List.mem_iff_getElem.1 hw
    have h1 := away_bd hv hi
    rw [getD_at hi] at h1
    have h2 := (wkOk_iff.1 (List.all_eq_true.1 (validP_iff.1 hv).2.2.2.2.1 _ hw)).2.2.2.1
    unfold wmW movW
    congr 1
    refine List.map_congr_left fun s hs => ?_
    have h3 := h1 s hs
    have h4 : s.1 < s.2 := by
      obtain ⟨g1, _⟩ := nrm_spec (p.workers[i]).away
      unfold validS at h2
      rw [decide_eq_true_eq] at h2
      rw [h2] at g1
      have : ∀ {l : List Sp} {lb : Int}, VF lb l → ∀ s ∈ l, s.1 < s.2 := by
        intro l
        induction l with
        | nil => intro _ _ s hs; cases hs
        | cons t l ih =>
          rintro lb ⟨a, b, c⟩ s hs
          rcases List.mem_cons.1 hs with rfl | hs
          · exact b
          · exact ih c s hs
      exact this g1 s hs
    unfold wmS movS
    rw [wrap_in (by omega), wrap_in (by omega)]
end Go.Proofs.YtlnokdkhglmogaaGreat
