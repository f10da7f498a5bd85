/-
  Plain: the net amount rises; one span; full rate; a fixed tax.
  Conditions: none beyond the premises of each theorem.
-/
import Derived.Test.YtnekeokgognegaaPG
namespace Go.Wage
/-! rises -/
def risesI (den : Int) (ps : List Pc) (i : Nat) : Bool :=
  match ps[i]? with
  | none => true
  | some p => decide (p.slope ≤ den) && (decide (i = 0) || (decide ((netR den ps (p.frm - 1)).2 = 0) && decide ((netR den ps p.frm).2 = 0) && decide ((netR den ps (p.frm - 1)).1 ≤ (netR den ps p.frm).1)))
def risesB (den : Int) (ps : List Pc) : Bool := (List.range ps.length).all (risesI den ps)
/-- the steps between the pieces of a list -/
def Stp (den : Int) : List Pc → Prop
  | [] => True
  | p :: ps => p.slope ≤ den ∧ (ps ≠ [] → ∃ a b, onL den (fun v => v = a) (nxt ps - 1) (p :: ps) ∧ onL den (fun v => v = b) (nxt ps) (p :: ps) ∧ a ≤ b) ∧ Stp den ps
theorem onL_tail {den : Int} {v : Int → Prop} {x : Int} {p : Pc} {ps : List Pc} (hx : nxt ps ≤ x) (h : onL den v x (p :: ps)) : onL den v x ps := by
  rcases h with h | h
  · omega
  · exact h
theorem onL_head {den : Int} {v : Int → Prop} {x : Int} {p : Pc} {ps : List Pc} (hk : okPs den ps) (hx : x < nxt ps) (h : onL den v x (p :: ps)) : p.frm ≤ x ∧ -1000000000000 ≤ wh den p x ∧ wh den p x ≤ 1000000000000 ∧ v (nt den p x) := by
  rcases h with h | h
  · exact ⟨h.1, h.2.2.1, h.2.2.2.1, h.2.2.2.2⟩
  · have := onL_ge hk h
    omega
theorem wh_btw {den : Int} {p : Pc} (hd : 1 ≤ den) {x y z : Int} (h1 : x ≤ y) (h2 : y ≤ z) (a : -1000000000000 ≤ wh den p x) (b : wh den p x ≤ 1000000000000) (c : -1000000000000 ≤ wh den p z) (d : wh den p z ≤ 1000000000000) : -1000000000000 ≤ wh den p y ∧ wh den p y ≤ 1000000000000 := by
  by_cases hs : 0 ≤ p.slope
  · have := wh_mono (p := p) hd hs h1
    have := wh_mono (p := p) hd hs h2
    omega
  · have := wh_anti (p := p) hd (by omega) h1
    have := wh_anti (p := p) hd (by omega) h2
    omega
theorem rise {den : Int} : ∀ {ps : List Pc}, okPs den ps → Stp den ps → ∀ {x z m n : Int}, onL den (fun v => v = m) x ps → onL den (fun v => v = n) z ps → x ≤ z → m ≤ n ∧ ∀ y, x ≤ y → y ≤ z → ∃ k, onL den (fun v => v = k) y ps
  | [], _, _, _, _, _, _, h, _, _ => h.elim
  | p :: ps, ⟨h1, h2, h3, h4⟩, ⟨s1, s2, s3⟩, x, z, m, n, hx, hz, hxz => by
    have hd : 1 ≤ den := by unfold okP at h1; omega
    by_cases hxl : x < nxt ps
    · obtain ⟨x1, x2, x3, x4⟩ := onL_head h4 hxl hx
      by_cases hzl : z < nxt ps
      · obtain ⟨z1, z2, z3, z4⟩ := onL_head h4 hzl hz
        have := nt_up (p := p) hd s1 hxz
        refine ⟨by omega, fun y hy1 hy2 => ?_⟩
        have hw := wh_btw (p := p) hd hy1 hy2 x2 x3 z2 z3
        exact ⟨nt den p y, .inl ⟨by omega, by omega, hw.1, hw.2, rfl⟩⟩
      · have hne : ps ≠ [] := by
          rintro rfl
          rcases hz with hz | hz
          · omega
          · exact hz
        obtain ⟨a, b, ha, hb, hab⟩ := s2 hne
        have hz' := onL_tail (by omega) hz
        have hb' := onL_tail (by omega) hb
        obtain ⟨a1, a2, a3, a4⟩ := onL_head h4 (by omega) ha
        obtain ⟨i1, i2⟩ := rise h4 s3 hb' hz' (by omega)
        have := nt_up (p := p) hd s1 (show x ≤ nxt ps - 1 by omega)
        refine ⟨by omega, fun y hy1 hy2 => ?_⟩
        by_cases hyl : y < nxt ps
        · have hw := wh_btw (p := p) hd hy1 (show y ≤ nxt ps - 1 by omega) x2 x3 a2 a3
          exact ⟨nt den p y, .inl ⟨by omega, by omega, hw.1, hw.2, rfl⟩⟩
        · obtain ⟨k, hk⟩ := i2 y (by omega) hy2
          exact ⟨k, .inr hk⟩
    · have hx' := onL_tail (by omega) hx
      have hz' := onL_tail (by omega) hz
      obtain ⟨i1, i2⟩ := rise h4 s3 hx' hz' hxz
      exact ⟨i1, fun y hy1 hy2 => let ⟨k, hk⟩ := i2 y hy1 hy2; ⟨k, .inr hk⟩⟩
theorem onL_drop {den : Int} {v : Int → Prop} {x : Int} : ∀ {ps : List Pc} (k : Nat), okPs den ps → nxt (ps.drop k) ≤ x → k < ps.length → onL den v x ps → onL den v x (ps.drop k)
  | _, 0, _, _, _, h => by simpa using h
  | [], _ + 1, _, _, hk, _ => by simp at hk
  | p :: ps, k + 1, ⟨_, _, _, h4⟩, hx, hk, h => by
    rw [List.drop_succ_cons] at hx ⊢
    simp only [List.length_cons] at hk
    have hle : nxt ps ≤ nxt (ps.drop k) := nxt_le h4 k (by omega)
    exact onL_drop k h4 hx (by omega) (onL_tail (by omega) h)
where
  nxt_le {den : Int} : ∀ {ps : List Pc}, okPs den ps → ∀ k, k < ps.length → nxt ps ≤ nxt (ps.drop k)
  | _, _, 0, _ => by simp
  | [], _, _ + 1, hk => by simp at hk
  | p :: ps, ⟨_, h2, _, h4⟩, k + 1, hk => by
    simp only [List.length_cons] at hk
    have := nxt_le h4 k (by omega)
    rw [List.drop_succ_cons]
    show p.frm ≤ _
    omega
theorem stp_of {den : Int} {ps : List Pc} (hv : validB den ps = true) (hr : risesB den ps = true) : ∀ k, k ≤ ps.length → Stp den (ps.drop (ps.length - k))
  | 0, _ => by rw [Nat.sub_zero, List.drop_length]; trivial
  | k + 1, hk => by
    have ih := stp_of hv hr k (by omega)
    have hlt : ps.length - (k + 1) < ps.length := by omega
    obtain ⟨p, hp⟩ : ∃ p, ps[ps.length - (k + 1)]? = some p := ⟨_, List.getElem?_eq_getElem hlt⟩
    have e : ps.drop (ps.length - (k + 1)) = p :: ps.drop (ps.length - k) := by
      obtain ⟨h1, h2⟩ := List.getElem?_eq_some_iff.1 hp
      rw [List.drop_eq_getElem_cons hlt, h2, show ps.length - (k + 1) + 1 = ps.length - k by omega]
    have hi := List.all_eq_true.1 hr (ps.length - (k + 1)) (by simp; omega)
    unfold risesI at hi
    rw [hp] at hi
    simp only [Bool.and_eq_true, decide_eq_true_eq] at hi
    rw [e]
    refine ⟨hi.1, fun hne => ?_, ih⟩
    have hk0 : 0 < k := by
      rcases Nat.eq_zero_or_pos k with h | h
      · subst h; rw [Nat.sub_zero, List.drop_length] at hne; exact absurd rfl hne
      · exact h
    obtain ⟨q, hq⟩ : ∃ q, ps[ps.length - k]? = some q := ⟨_, List.getElem?_eq_getElem (by omega)⟩
    have hi2 := List.all_eq_true.1 hr (ps.length - k) (by simp; omega)
    unfold risesI at hi2
    rw [hq] at hi2
    simp only [Bool.and_eq_true, Bool.or_eq_true, decide_eq_true_eq] at hi2
    have hz : ¬ ps.length - k = 0 := by omega
    obtain ⟨⟨g1, g2⟩, g3⟩ := hi2.2.resolve_left hz
    have en : nxt (ps.drop (ps.length - k)) = q.frm := by
      obtain ⟨h1, h2⟩ := List.getElem?_eq_some_iff.1 hq
      rw [List.drop_eq_getElem_cons h1, h2]; rfl
    have hb := nxt_bd hv hp
    rw [show ps.length - (k + 1) + 1 = ps.length - k by omega, en] at hb
    rw [en, ← e]
    have hkx : nxt (ps.drop (ps.length - (k + 1))) = p.frm := by rw [e]; rfl
    refine ⟨_, _, onL_drop _ (valid_okPs hv) (by rw [hkx]; omega) hlt ((net_iff hv).1 (Prod.ext rfl g1)), onL_drop _ (valid_okPs hv) (by rw [hkx]; omega) hlt ((net_iff hv).1 (Prod.ext rfl g2)), g3⟩
theorem rise_net {den : Int} {ps : List Pc} (hv : validB den ps = true) (hr : risesB den ps = true) {x z m n : Int} (hx : netR den ps x = (m, 0)) (hz : netR den ps z = (n, 0)) (h : x ≤ z) : m ≤ n ∧ ∀ y, x ≤ y → y ≤ z → ∃ k, netR den ps y = (k, 0) := by
  have hs := stp_of hv hr ps.length (Nat.le_refl _)
  rw [Nat.sub_self, List.drop_zero] at hs
  obtain ⟨h1, h2⟩ := rise (valid_okPs hv) hs ((net_iff hv).1 hx) ((net_iff hv).1 hz) h
  exact ⟨h1, fun y a b => let ⟨k, hk⟩ := h2 y a b; ⟨k, (net_iff hv).2 hk⟩⟩
theorem one_span {den net : Int} {ps : List Pc} (hv : validB den ps = true) (hr : risesB den ps = true) : nrm (sols den ps net) = [] ∨ ∃ s, nrm (sols den ps net) = [s] ∧ netR den ps s.1 = (net, 0) ∧ ∀ x, netR den ps x = (net, 0) → s.1 ≤ x := by
  have hsp := fun x => solve_spec (net := net) hv x
  have hvf := (nrm_spec (sols den ps net)).1
  cases hl : nrm (sols den ps net) with
  | nil => exact .inl rfl
  | cons s l =>
    rw [hl] at hsp hvf
    obtain ⟨v1, v2, v3⟩ := hvf
    have hs1 : netR den ps s.1 = (net, 0) := (hsp s.1).1 ⟨s, by simp, by omega, by omega⟩
    cases l with
    | nil =>
      refine .inr ⟨s, rfl, hs1, fun x hx => ?_⟩
      obtain ⟨q, hq, h1, _⟩ := (hsp x).2 hx
      simp only [List.mem_singleton] at hq
      subst hq
      exact h1
    | cons t l =>
      obtain ⟨w1, w2, w3⟩ := v3
      have ht1 : netR den ps t.1 = (net, 0) := (hsp t.1).1 ⟨t, by simp, by omega, by omega⟩
      obtain ⟨k, hk⟩ := (rise_net hv hr hs1 ht1 (by omega)).2 s.2 (by omega) (by omega)
      have h1 := (rise_net hv hr hs1 hk (by omega)).1
      have h2 := (rise_net hv hr hk ht1 (by omega)).1
      have hkn : k = net := by omega
      subst hkn
      obtain ⟨q, hq, g1, g2⟩ := (hsp s.2).2 hk
      rcases List.mem_cons.1 hq with rfl | hq
      · omega
      · have : VF s.2 (t :: l) := ⟨w1, w2, w3⟩
        have := this.mem hq
        omega
/-! full rate -/
theorem full_rate {den : Int} {ps : List Pc} (hv : validB den ps = true) {i : Nat} {p : Pc} (hp : ps[i]? = some p) (hs : p.slope = den) {x n : Int} (h1 : p.frm ≤ x) (h2 : x < nxt (ps.drop (i + 1))) (h : netR den ps x = (n, 0)) : n = p.frm - p.at_ / den := by
  have hd : 1 ≤ den := by have := valid_okP hv hp; unfold okP at this; omega
  have hon := (net_iff hv).1 h
  rw [onL_iff] at hon
  obtain ⟨j, q, g1, g2, g3, g4, g5, g6⟩ := hon
  have e : q = p := by rw [← at_piece hv hp h1 h2, at_piece hv g1 g2 g3]
  subst e
  rw [← g6]
  unfold nt wh
  rw [hs, Int.mul_comm, Int.add_mul_ediv_right _ _ (by omega)]
  omega
/-! a fixed tax -/
theorem fix_valid {tax : Int} (h1 : -1000000000000 ≤ tax) (h2 : tax ≤ 1000000000000) : validB 1 [⟨0, tax, 0⟩] = true := by
  simp [validB, okI, List.range, List.range.loop]
  omega
theorem fix_net {tax x n : Int} (h1 : -1000000000000 ≤ tax) (h2 : tax ≤ 1000000000000) : netR 1 [⟨0, tax, 0⟩] x = (n, 0) ↔ 0 ≤ x ∧ x ≤ 1000000000000 ∧ x - tax = n := by
  rw [net_iff (fix_valid h1 h2)]
  have e : wh 1 ⟨0, tax, 0⟩ x = tax := by unfold wh; dsimp only; omega
  unfold onL onL nt nxt
  rw [e]
  dsimp only
  rw [or_false]
  omega
theorem fix_solve {tax net : Int} (h1 : -1000000000000 ≤ tax) (h2 : tax ≤ 1000000000000) : nrm (sols 1 [⟨0, tax, 0⟩] net) = if 0 ≤ net + tax ∧ net + tax ≤ 1000000000000 then [(net + tax, net + tax + 1)] else [] := by
  split
  · rename_i h
    refine solve_uniq (lb := -1) (fix_valid h1 h2) ⟨by dsimp only; omega, by dsimp only; omega, trivial⟩ fun x => ?_
    rw [fix_net h1 h2]
    simp only [inS, List.mem_singleton, exists_eq_left]
    omega
  · refine solve_uniq (lb := -1) (fix_valid h1 h2) trivial fun x => ?_
    rw [fix_net h1 h2]
    simp only [inS, List.not_mem_nil, false_and, exists_false, false_iff]
    omega
end Go.Wage
