/-
  The engine, part M: a region whose order is open and whose tail calls the loop's body.
  Conditions: none beyond the premises of each rule.
-/
import Derived.Test.YtnekeokgognegaaE2H
import Derived.OrdersIn
namespace Go.E2
open Go.RowKit
section
variable {P : Program} {c : Ctx} {n : Cfg} {Q : Exit → Act → World → Prop} {F G : Fr} {L : List Ent} {ops : Array Oper}
theorem wpAnyIn_of_A {ro : Option Nat} {dd p m : Nat} {Q' : Exit → Act → World → Prop} {K : Fr → Prop} (hd : ∀ (i : Nat) (o : Oper), ops[i]? = some o → noDef o.op = true) (hm : ops.size = m) (hpm : p ≤ m) (hT : ∀ listed, Closed ops listed → (∃ i, i < p ∧ listed.getD i true = false) → ∀ j ∈ Region.ready .any ops listed, j < p)
    (hK : ∀ F H w a, K F → St c H w L → Fit H n F a → wpAnyIn (wd ro) dd P .any ops Q' (m - p) (lst p m) a w) :
    ∀ (fuel : Nat) (listed : Array Bool) (F : Fr) (H : Cells) (w : World) (a : Act), listed.size = m → Closed ops listed → unl p listed = fuel → (∀ i, p ≤ i → listed.getD i false = false) → wpAnyA P c n L ops p K fuel listed F → St c H w L → Fit H n F a → wpAnyIn (wd ro) dd P .any ops Q' (fuel + (m - p)) listed a w
  | 0, listed, F, H, w, a, hs, _, hu, h1, h, hst, hF => by
    rw [Nat.zero_add, lst_of hpm hs (unl_zero hu) h1]
    exact hK F H w a h.2 hst hF
  | fuel + 1, listed, F, H, w, a, hs, hc, hu, h1, h, hst, hF => by
    rw [show fuel + 1 + (m - p) = (fuel + (m - p)) + 1 by omega]
    obtain ⟨⟨i0, hi0, _⟩, hall⟩ := h
    refine ⟨fun h0 => (by rw [h0] at hi0; cases hi0), fun i hi => ?_⟩
    have hip := hT listed hc (unl_pos (by omega)) i hi
    obtain ⟨hun, o, ho, _⟩ := mem_ready.1 hi
    have hil : i < listed.size := by rw [hs, ← hm]; exact (Array.getElem?_eq_some_iff.1 ho).1
    obtain ⟨r, hy, hn⟩ := hall i hi hip o ho
    have hnext : ∀ H' w' v, H.le H' → St c H' w' L → Rel H' r v → wpAnyIn (wd ro) dd P .any ops Q' (fuel + (m - p)) (listed.setIfInBounds i true) (a.put o.dst v) w' := fun H' w' v hl hs' hr =>
      wpAnyIn_of_A hd hm hpm hT hK fuel _ _ H' w' _ (by simpa using hs) (hc.set hi) (by have := unl_set hil hun p; rw [if_pos hip] at this; omega) (fun j hj => by rw [getD_set_ne false (by omega)]; exact h1 j hj) hn hs' ((hF.mono hl).put hr o.dst)
    unfold wpOpIn
    simp only [ho]
    rcases hy with ⟨hw, hg⟩ | ⟨hw, rfl⟩
    · rw [if_pos (wanted_fit hF.size hF.rel hw)]
      exact oper_in (hd i o ho) (fun _ _ h => h) (oper_wp_grows hst (hg.out H w a.eval hst (hF.reads _) o.dst o.pos o.after o.guard) hnext)
    · rw [if_neg (by rw [wanted_fit hF.size hF.rel hw]; simp)]
      exact ⟨fun _ _ => trivial, hnext H w undef (Cells.le_refl _) hst (.v _)⟩
theorem wpAnyIn_chain {f : Fence} {dd : Nat} {Q' : Exit → Act → World → Prop} : ∀ (l : List Oper) (k : Nat) (listed : Array Bool) (a : Act) (w : World), (∀ j, j < l.length → l[j]? = ops[k + j]?) → chainB ops l.length k listed = true → wpListIn f dd P ops Q' l a w → wpAnyIn f dd P .any ops Q' l.length listed a w
  | [], _, _, _, _, _, hB, h => ⟨by simpa [chainB] using hB, h⟩
  | o :: l, k, listed, a, w, hl, hB, h => by
    have h0 : ops[k]? = some o := by simpa using (hl 0 (by simp)).symm
    simp only [List.length_cons, chainB, Bool.and_eq_true, beq_iff_eq] at hB
    refine ⟨fun h1 => (by rw [hB.1] at h1; cases h1), fun i hi => ?_⟩
    rw [hB.1] at hi
    simp only [List.mem_singleton] at hi
    subst hi
    have hn : ∀ a w, wpListIn f dd P ops Q' l a w → wpAnyIn f dd P .any ops Q' l.length (listed.setIfInBounds i true) a w := fun a w h => wpAnyIn_chain l (i + 1) _ a w (fun j hj => by have := hl (j + 1) (by simpa using hj); simpa [Nat.add_assoc, Nat.add_comm 1 j] using this) hB.2 h
    unfold wpOpIn
    simp only [h0]
    unfold wpListIn at h
    split at h
    · rename_i hw; rw [if_pos hw]; exact Oper.wpIn_mono hn h
    · rename_i hw; rw [if_neg hw]; exact ⟨h.1, hn _ _ h.2⟩
def ThenY (P : Program) (c : Ctx) (n : Cfg) (ops : Array Oper) (Q : Exit → Act → World → Prop) (tail : List Oper) (L : List Ent) (F : Fr) : Prop := Yx P c n ops Q tail F L
theorem ThenY.congr {tail : List Oper} (F G : Fr) (h : FEq F G) (k : ThenY P c n ops Q tail L F) : ThenY P c n ops Q tail L G := ⟨fun H w a hs hF => k.out H w a hs (hF.weak fun s x hx => by rw [← h s]; exact hx)⟩
theorem Ox.finY {tail : List Oper} (h : Yx P c n ops Q tail F L) : Ox P c n ops (ThenY P c n ops Q tail L) [] F L := Ox.nil h
theorem Cx.anyY {id : Nat} {l : List Oper} {m : Nat} (p : Nat) (hm : P.follows .mixedOrders = true) (hl : l.length = m) (hpm : Nat.ble p m = true) (hd : l.all (fun o => noDef o.op) = true)
    (hlex : lexTo l.toArray p p 0 (lst 0 m) = true) (htail : (Nat.beq p m || tailB l.toArray p m) = true) (hch : chainB l.toArray (m - p) p (lst p m) = true)
    (h : Ox P c n l.toArray (ThenY P c n l.toArray Q (l.drop p) L) (l.take p) F L) : Cx P c n (.region id l.toArray true) Q F L :=
  ⟨fun H w a hs hF dd => by
    have hpm := Nat.le_of_ble_eq_true hpm
    have hsz : l.toArray.size = m := by simpa using hl
    have hlt : (l.take p).length = p := by simp; omega
    refine wpIn_region_draw fun t => ?_
    simp only [Region.schedule, hm, Bool.true_or, if_true]
    refine wpAnyIn_sound _ t _ a _ ?_
    obtain ⟨F', h1, h2⟩ := h.out
    have hA := wpAnyA_lex (p := p) (K := ThenY P c n l.toArray Q (l.drop p) L) (fun F G e k => ThenY.congr F G e k) (l.take p) 0 (lst 0 m) F F' (fun j hj => by rw [hlt] at hj; rw [List.getElem?_take, if_pos hj]; simp) (by rw [hlt]; exact hlex) h1 h2
    rw [hlt] at hA
    have e0 : lst 0 m = Array.replicate m false := by simp [lst]
    have := wpAnyIn_of_A (m := m) (ro := n.ro) (dd := dd) (Q' := Q) (noDef_get hd) hsz hpm (fun listed hc hu j hj => by
        rcases Bool.or_eq_true _ _ ▸ htail with he | ht
        · have := Nat.eq_of_beq_eq_true he
          obtain ⟨_, o', ho', _⟩ := mem_ready.1 hj
          rw [this, ← hsz]
          exact (Array.getElem?_eq_some_iff.1 ho').1
        · exact tail_spec hsz ht listed hc hu j hj)
      (fun F H w a k hs hF => by
        have hw := Yx.out k H w a hs hF dd
        have := wpAnyIn_chain (l.drop p) p (lst p m) a w (fun j hj => by simp) (by rw [List.length_drop, hl]; exact hch) hw
        rwa [List.length_drop, hl] at this) p (lst 0 m) F H _ a (by simp [lst]) (fun k o ho hk => by rw [e0] at hk; simp [Array.getElem?_replicate] at hk; split at hk <;> simp_all) (by
          rw [e0]
          have : ∀ k, k ≤ m → unl k (Array.replicate m false) = k := by
            intro k
            induction k with
            | zero => intro _; rfl
            | succ k ih =>
              intro hk
              have h3 := ih (by omega)
              simp only [unl, h3]
              rw [if_pos (by simp [show k < m by omega])]
          exact this p hpm) (fun i _ => by rw [e0]; simp [Array.getElem?_replicate]; split <;> simp) hA hs.drew hF
    rw [show p + (m - p) = m by omega, e0] at this
    rw [hsz]
    exact this⟩
end
end Go.E2
