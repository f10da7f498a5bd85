/-
  Law 20: the numbered rosters are all rosters; what fuel suffices.
  Conditions: those of each theorem.
-/
import Derived.Test.YtecemgicnboaaaaGreatNB6
namespace Go.Proofs.YtecemgicnboaaaaGreat
open Go.E2 Go.Wage
/-! numbers -/
theorem numD_cons {W : Nat} (w : Nat) (hw : w < W) : ∀ (m n : Nat), n < W ^ m → numD W (m + 1) (w * W ^ m + n) = (w : Int) :: numD W m n
  | 0, n, h => by
    have : n = 0 := by simpa using h
    subst this
    rw [numD, numD, numD, Nat.pow_zero, Nat.mul_one, Nat.add_zero, Nat.mod_eq_of_lt hw]
    rfl
  | m + 1, n, h => by
    have hW : 0 < W := by omega
    have e1 : (w * W ^ (m + 1) + n) / W = w * W ^ m + n / W := by
      rw [Nat.pow_succ, ← Nat.mul_assoc, Nat.add_comm, Nat.add_mul_div_right _ _ hW, Nat.add_comm]
    have e2 : (w * W ^ (m + 1) + n) % W = n % W := by
      rw [Nat.pow_succ, ← Nat.mul_assoc, Nat.add_comm, Nat.add_mul_mod_self_right]
    have hn : n / W < W ^ m := by
      rw [Nat.div_lt_iff_lt_mul hW, ← Nat.pow_succ]
      exact h
    rw [numD, e1, e2, numD_cons w hw m (n / W) hn]
    rfl
theorem range_mul (M : Nat) : ∀ W : Nat, List.range (W * M) = (List.range W).flatMap fun w => (List.range M).map fun n => w * M + n
  | 0 => by simp
  | W + 1 => by
    rw [Nat.add_mul, Nat.one_mul, List.range_add, range_mul M W, List.range_succ, List.flatMap_append]
    simp
theorem comp_num (W : Nat) : ∀ (m : Nat) (pre : List Int), comp W m pre = (List.range (W ^ m)).map fun n => pre ++ numD W m n
  | 0, pre => by simp [comp, numD]
  | m + 1, pre => by
    rw [comp, Nat.pow_succ, Nat.mul_comm, range_mul, List.map_flatMap]
    unfold List.flatMap
    congr 1
    apply List.map_congr_left
    intro w hw
    rw [comp_num W m, List.map_map]
    apply List.map_congr_left
    intro n hn
    rw [List.mem_range] at hw hn
    simp only [Function.comp]
    rw [numD_cons w hw m n hn, List.append_assoc]
    rfl
theorem all_num (p : Pl) : allR p = (List.range (p.workers.length ^ p.duties.length)).map (numP p) := by
  unfold allR
  rw [comp_num]
  rfl
theorem upd_B {p : Pl} {s : BS} {ro : List Int} (hv : validP p = true) (h : ro ∈ allR p) : updB p s ro = upd p s ro := by
  obtain ⟨h1, h2⟩ := all_mem.1 h
  have hok : okRo p ro = true := by
    unfold okRo
    rw [hv, Bool.true_and]
    exact isRo_iff.2 ⟨h1, fun w hw => by have := h2 w hw; omega⟩
  have hw : wkb p ro = workB p ro := by
    unfold wkb workB
    rw [hok, (List.all_eq_true.2 fun w hw => decide_eq_true (h2 w hw).1 : (ro.all fun w => decide (0 ≤ w)) = true)]
    rfl
  unfold updB upd
  rw [hw, if_pos hok]
theorem best_N {p : Pl} (hv : validP p = true) (hc : cntP p 5000 = ((p.workers.length ^ p.duties.length : Nat) : Int)) : bestN p (cntP p 5000).toNat = bestC p := by
  unfold bestN bestC
  rw [hc, Int.toNat_natCast, ← all_num]
  have : ∀ (l : List (List Int)) (s : BS), (∀ ro ∈ l, ro ∈ allR p) → l.foldl (updB p) s = l.foldl (upd p) s := by
    intro l
    induction l with
    | nil => intro s _; rfl
    | cons x l ih =>
      intro s h
      rw [List.foldl_cons, List.foldl_cons, upd_B hv (h x (by simp)), ih _ fun ro hr => h ro (by simp [hr])]
  exact this _ _ fun _ h => h
/-! fuel -/
def sumW (f : Nat → Nat) : Nat → Nat → Nat
  | 0, _ => 0
  | k + 1, w => f w + sumW f k (w + 1)
theorem sumW_le {f g : Nat → Nat} {c d : Nat} : ∀ (k w : Nat), (∀ v, w ≤ v → v < w + k → f v ≤ c + d * g v) → sumW f k w ≤ c * k + d * sumW g k w
  | 0, _, _ => by simp [sumW]
  | k + 1, w, h => by
    have h1 := h w (Nat.le_refl _) (by omega)
    have h2 := sumW_le (f := f) (g := g) k (w + 1) fun v a b => h v (by omega) (by omega)
    rw [sumW, sumW, Nat.mul_add, Nat.mul_add, Nat.mul_one]
    omega
/-- visits of prefixes -/
def visP (p : Pl) : Nat → List Int → Nat
  | 0, _ => 1
  | m + 1, pre => if cleanB p pre = true then 1 + sumW (fun w : Nat => visP p m (pre ++ [(w : Int)])) p.workers.length 0 else 1
theorem extP_fuel {σ : Type} {fu : σ → Int} {F : Nat → σ → σ × Int} {V : Nat → Nat} : ∀ (k w : Nat) (s : σ), (∀ v s, w ≤ v → v < w + k → (V v : Int) ≤ fu s → (F v s).2 = 0 ∧ fu s - V v ≤ fu (F v s).1) → (sumW V k w : Int) ≤ fu s → (extP F k w s).2 = 0 ∧ fu s - sumW V k w ≤ fu (extP F k w s).1
  | 0, _, s, _, _ => ⟨rfl, by simp [extP, sumW]⟩
  | k + 1, w, s, h, hs => by
    rw [sumW] at hs ⊢
    have h1 := h w s (Nat.le_refl _) (by omega) (by omega)
    rw [extP, if_pos h1.1]
    have h2 := extP_fuel (fu := fu) (F := F) (V := V) k (w + 1) (F w s).1 (fun v s a b => h v s (by omega) (by omega)) (by omega)
    exact ⟨h2.1, by omega⟩
theorem visP_pos (p : Pl) : ∀ (m : Nat) (pre : List Int), 1 ≤ visP p m pre
  | 0, _ => Nat.le_refl _
  | m + 1, pre => by rw [visP]; split <;> omega
theorem impP_fuel (p : Pl) : ∀ (m : Nat) (pre : List Int) (c : Int) (s : PS), (visP p m pre : Int) ≤ s.fuel → (impP p m pre c s).2 = 0 ∧ s.fuel - visP p m pre ≤ (impP p m pre c s).1.fuel
  | 0, pre, c, s, h => by
    rw [visP] at h ⊢
    rw [impP, if_neg (by omega)]
    split
    · exact ⟨rfl, by dsimp only; omega⟩
    · exact ⟨rfl, by dsimp only; omega⟩
  | m + 1, pre, c, s, h => by
    have h1 := visP_pos p (m + 1) pre
    rw [impP, if_neg (by omega)]
    split
    · exact ⟨rfl, by dsimp only; omega⟩
    · rename_i hc
      have hcl : cleanB p pre = true := by cases hq : cleanB p pre with | false => rw [hq] at hc; simp at hc | true => rfl
      rw [visP, if_pos hcl] at h ⊢
      have := extP_fuel (fu := PS.fuel) (V := fun w : Nat => visP p m (pre ++ [(w : Int)])) p.workers.length 0 ⟨s.fuel - 1, s.bs⟩ (F := fun (w : Nat) s => impP p m (pre ++ [(w : Int)]) (c + wageP p w * minD (p.duties.getD pre.length default)) s) (fun v s' _ _ hv => impP_fuel p m _ _ s' hv) (by dsimp only; omega)
      dsimp only at this
      exact ⟨this.1, by omega⟩
theorem extR_fuel {F : Nat → RS → RS × Int × Int} {V : Nat → Nat} : ∀ (k w : Nat) (frm : List Int) (s : RS), (∀ v s, w ≤ v → v < w + k → (V v : Int) ≤ s.fuel → s.log.length + V v ≤ 20000 → (F v s).2.2 = 0 ∧ s.fuel - V v ≤ (F v s).1.fuel ∧ (F v s).1.log.length ≤ s.log.length + V v) → (sumW V k w : Int) ≤ s.fuel → s.log.length + sumW V k w ≤ 20000 →
    (extR F k w frm s).2 = 0 ∧ s.fuel - sumW V k w ≤ (extR F k w frm s).1.1.fuel ∧ (extR F k w frm s).1.1.log.length ≤ s.log.length + sumW V k w
  | 0, _, _, s, _, _, _ => ⟨rfl, by simp [extR, sumW], by simp [extR, sumW]⟩
  | k + 1, w, frm, s, h, hs, hl => by
    rw [sumW] at hs hl ⊢
    have h1 := h w s (Nat.le_refl _) (by omega) (by omega) (by omega)
    rw [extR, if_pos h1.1]
    have h2 := extR_fuel (F := F) (V := V) k (w + 1) (frm ++ [(F w s).2.1]) (F w s).1 (fun v s a b => h v s (by omega) (by omega)) (by omega) (by omega)
    exact ⟨h2.1, by omega, by omega⟩
theorem addP_fuel {s : RS} {x : Sg} (h : s.log.length < 20000) : (addP s x).2.2 = 0 ∧ (addP s x).1.fuel = s.fuel ∧ (addP s x).1.log.length = s.log.length + 1 := by
  unfold addP
  rw [if_neg (by omega)]
  exact ⟨rfl, rfl, by simp⟩
theorem refP_fuel (p : Pl) (b : Int) : ∀ (m : Nat) (pre : List Int) (c : Int) (s : RS), (visP p m pre : Int) ≤ s.fuel → s.log.length + visP p m pre ≤ 20000 → (refP p b m pre c s).2.2 = 0 ∧ s.fuel - visP p m pre ≤ (refP p b m pre c s).1.fuel ∧ (refP p b m pre c s).1.log.length ≤ s.log.length + visP p m pre
  | m, pre, c, s, h, hl => by
    have h1 := visP_pos p m pre
    have hadd := fun x => addP_fuel (s := ⟨s.fuel - 1, s.log⟩) (x := x) (by dsimp only; omega)
    rw [refP_eq, if_neg (by omega)]
    split
    · have := hadd ⟨noL pre, 4, []⟩
      dsimp only at this
      exact ⟨this.1, by omega, by omega⟩
    · split
      · have := hadd ⟨noL pre, 3, []⟩
        dsimp only at this
        exact ⟨this.1, by omega, by omega⟩
      · rename_i hc
        have hcl : cleanB p pre = true := by cases hq : cleanB p pre with | false => exact absurd hq hc | true => rfl
        cases m with
        | zero =>
          rw [rfStP]
          have := hadd ⟨noL pre, 3, []⟩
          dsimp only at this
          exact ⟨this.1, by omega, by omega⟩
        | succ m =>
          rw [visP, if_pos hcl] at h hl ⊢
          have := extR_fuel (F := stpR p b m pre c) (V := fun w : Nat => visP p m (pre ++ [(w : Int)])) p.workers.length 0 [] ⟨s.fuel - 1, s.log⟩ (fun v s' _ _ hv hl' => refP_fuel p b m _ _ s' hv hl') (by dsimp only; omega) (by dsimp only; omega)
          dsimp only at this
          rw [rfStP, if_neg (fun hn => hn this.1)]
          have h2 := addP_fuel (s := (extR (stpR p b m pre c) p.workers.length 0 [] ⟨s.fuel - 1, s.log⟩).1.1) (x := ⟨noL pre, 5, (extR (stpR p b m pre c) p.workers.length 0 [] ⟨s.fuel - 1, s.log⟩).1.2 ++ [(pre.length : Int)]⟩) (by omega)
          exact ⟨h2.1, by omega, by omega⟩
/-! clean prefixes are counted -/
def partR (f : List Int) (m : Nat) : List Int := f ++ List.replicate m (-1)
/-- clean prefixes that begin with a prefix -/
def clnP (p : Pl) : Nat → List Int → Nat
  | 0, f => if badP p (partR f 0) = [] then 1 else 0
  | m + 1, f => if badP p (partR f (m + 1)) = [] then 1 + sumW (fun w : Nat => clnP p m (f ++ [(w : Int)])) p.workers.length 0 else 0
theorem mineR_part (f : List Int) (m w : Nat) : mineR (partR f m) w = mineR f w := by
  unfold partR mineR
  have hz : ((List.range m).map fun x => f.length + x).filter (fun i => decide ((f ++ List.replicate m (-1)).getD i default = (w : Int))) = [] := by
    rw [List.filter_eq_nil_iff]
    intro i hi
    obtain ⟨j, hj, rfl⟩ := List.mem_map.1 hi
    rw [List.mem_range] at hj
    rw [decide_eq_true_eq]
    simp only [List.getD, List.getElem?_append_right (Nat.le_add_right _ _), Nat.add_sub_cancel_left, List.getElem?_replicate, if_pos hj, Option.getD_some]
    omega
  rw [List.length_append, List.length_replicate, List.range_add, List.filter_append, hz, List.append_nil]
  apply List.filter_congr
  intro i hi
  rw [List.mem_range] at hi
  rw [getD_appW hi]
theorem bad_part {p : Pl} {f : List Int} {m : Nat} : badP p (partR f m) = [] ↔ okPre p f := by
  rw [badP_nil]
  unfold okPre
  simp only [mineR_part]
theorem okPre_nil (p : Pl) : okPre p [] := fun w _ => by
  have : mineR [] (w : Int) = [] := rfl
  rw [this, violW_nil]
  simp [trip]
theorem vis_cln {p : Pl} : ∀ (m : Nat) (pre : List Int), (∀ q (x : Nat), pre = q ++ [(x : Int)] → x < p.workers.length ∧ okPre p q) → (∀ w ∈ pre, 0 ≤ w) → visP p m pre ≤ 1 + p.workers.length * clnP p m pre
  | 0, pre, _, _ => by rw [visP]; omega
  | m + 1, pre, hq, h0 => by
    rw [visP]
    split
    · rename_i hcl
      have hok : okPre p pre := by
        rcases List.eq_nil_or_concat pre with rfl | ⟨q, x, rfl⟩
        · exact okPre_nil p
        · rw [List.concat_eq_append] at *
          obtain ⟨y, rfl⟩ := Int.eq_ofNat_of_zero_le (h0 x (by simp))
          exact clean_ok (hq q y rfl).2 hcl
      rw [clnP, if_pos (bad_part.2 hok)]
      have := sumW_le (f := fun w : Nat => visP p m (pre ++ [(w : Int)])) (g := fun w : Nat => clnP p m (pre ++ [(w : Int)])) (c := 1) (d := p.workers.length) p.workers.length 0 fun v _ hv => by
        refine vis_cln m (pre ++ [(v : Int)]) (fun q x e => ?_) fun w hw => ?_
        · have e2 := List.append_inj' e rfl
          have : x = v := by have := e2.2; simp only [List.cons.injEq, and_true] at this; omega
          rw [← e2.1, this]
          exact ⟨by omega, hok⟩
        · rcases List.mem_append.1 hw with hw | hw
          · exact h0 w hw
          · rw [List.mem_singleton] at hw; omega
      rw [Nat.mul_add, Nat.mul_one]
      omega
    · omega
/-- the reference's count, up to a limit -/
def prfW (F : Nat → Int → Int) (lim : Int) : Nat → Nat → Int → Int
  | 0, _, n => n
  | k + 1, w, n => if n ≤ lim then prfW F lim k (w + 1) (n + F w (lim - n)) else n
def prfP (p : Pl) : Nat → List Int → Int → Int
  | 0, f, lim => if badP p (partR f 0) = [] then min 1 (lim + 1) else 0
  | m + 1, f, lim => if badP p (partR f (m + 1)) = [] then min (prfW (fun (w : Nat) lim => prfP p m (f ++ [(w : Int)]) lim) lim p.workers.length 0 1) (lim + 1) else 0
theorem prfW_min {F : Nat → Int → Int} {T : Nat → Nat} {lim : Int} (hF : ∀ w l, 0 ≤ l → F w l = min (T w : Int) (l + 1)) : ∀ (k w : Nat) (n : Int), min (prfW F lim k w n) (lim + 1) = min (n + (sumW T k w : Int)) (lim + 1)
  | 0, _, n => by simp [prfW, sumW]
  | k + 1, w, n => by
    rw [prfW, sumW]
    split
    · rw [prfW_min hF k (w + 1), hF w (lim - n) (by omega)]
      omega
    · omega
theorem prfP_min (p : Pl) : ∀ (m : Nat) (f : List Int) (lim : Int), 0 ≤ lim → prfP p m f lim = min (clnP p m f : Int) (lim + 1)
  | 0, f, lim, h => by
    rw [prfP, clnP]
    split
    · rfl
    · omega
  | m + 1, f, lim, h => by
    rw [prfP, clnP]
    split
    · rw [prfW_min (T := fun w : Nat => clnP p m (f ++ [(w : Int)])) (fun w l hl => prfP_min p m _ l hl)]
      omega
    · omega
def enoughB (p : Pl) (fuel : Int) : Bool := decide (prfP p p.duties.length [] 3000 ≤ 3000) && decide (2 * (prfP p p.duties.length [] 3000 * (p.workers.length + 1) + 1) ≤ fuel) && decide ((p.duties.length : Int) + prfP p p.duties.length [] 3000 * (p.workers.length + 1) ≤ 20000)
theorem solve_fuel {p : Pl} {st : Int} (hv : validP p = true) (hst : 0 ≤ st ∧ st ≤ 100000) (he : enoughB p st = true) : (solveP p st).code ≠ 201 := by
  unfold enoughB at he
  simp only [Bool.and_eq_true, decide_eq_true_eq] at he
  rw [prfP_min p _ _ _ (by omega)] at he
  have hv1 := vis_cln (p := p) p.duties.length [] (by simp) (by simp)
  have hc1 : 1 ≤ clnP p p.duties.length [] := by
    have hok := fun m => (bad_part (p := p) (f := []) (m := m)).2 (okPre_nil p)
    cases p.duties.length with
    | zero => rw [clnP, if_pos (hok _)]; exact Nat.le_refl _
    | succ m => rw [clnP, if_pos (hok _)]; omega
  generalize hC : clnP p p.duties.length [] = C at *
  generalize hV : visP p p.duties.length [] = V at *
  have hCl : (C : Int) ≤ 3000 := by omega
  rw [Int.min_eq_left (by omega)] at he
  have hmul : (C : Int) * ((p.workers.length : Int) + 1) = ((p.workers.length * C : Nat) : Int) + C := by
    rw [Int.mul_add, Int.mul_one, Int.natCast_mul, Int.mul_comm]
  rw [hmul] at he
  have h1 := impP_fuel p p.duties.length [] 0 ⟨st, ⟨false, [], 0⟩⟩ (by rw [hV]; dsimp only; omega)
  rw [hV] at h1
  dsimp only at h1
  unfold solveP
  rw [if_neg (by rw [hv]; simp; omega), if_neg (fun h => h h1.1)]
  split
  · simp
  split
  · simp
  have hsl : (someL p p.duties.length).length = p.duties.length := by unfold someL; simp
  have h2 := refP_fuel p (impP p p.duties.length [] 0 ⟨st, ⟨false, [], 0⟩⟩).1.bs.cost p.duties.length [] 0 ⟨(impP p p.duties.length [] 0 ⟨st, ⟨false, [], 0⟩⟩).1.fuel, someL p p.duties.length⟩ (by rw [hV]; dsimp only; omega) (by rw [hV]; dsimp only; omega)
  rw [if_neg (fun h => h h2.1)]
  simp
end Go.Proofs.YtecemgicnboaaaaGreat
