/-
  The engine, second make, part G: a region whose order is open and that makes one new block on its way.
  Conditions: none beyond the premises of each rule.
-/
import Derived.Test.YtlnokdkhglmogaaGreatE3F
namespace Go.E2
open Go.RowKit
section
variable {P : Program} {c : Ctx} {n : Cfg} {Q : Exit → Act → World → Prop} {F G : Fr} {L : List Ent} {ops : Array Oper}
/-- the order of the text, operation q left out -/
def lexIs (ops : Array Oper) (p : Nat) : List Nat → Array Bool → Bool
  | [], listed => (Region.ready .any ops listed).all fun i => Nat.ble p i
  | k :: ks, listed => (Region.ready .any ops listed).contains k && Nat.blt k p && Region.free .any ops listed k && lexIs ops p ks (listed.setIfInBounds k true)
theorem wpAnyA_is {p : Nat} {K : Fr → Prop} (hK : ∀ F G, FEq F G → K F → K G) : ∀ (l : List Oper) (is : List Nat) (listed : Array Bool) (F F' : Fr), l.length = is.length → (∀ (j i : Nat), is[j]? = some i → l[j]? = ops[i]?) →
    lexIs ops p is listed = true → RunA P c n L ops l F F' → K F' → wpAnyA P c n L ops p K is.length listed F
  | [], [], _, _, _, _, _, hB, .nil, hk => ⟨fun i hi => by
      simp only [lexIs, List.all_eq_true] at hB
      exact Nat.le_of_ble_eq_true (hB i hi), hk⟩
  | [], _ :: _, _, _, _, hlen, _, _, _, _ => by simp at hlen
  | _ :: _, [], _, _, _, hlen, _, _, _, _ => by simp at hlen
  | o :: l, k :: is, listed, F, F', hlen, hl, hB, .cons h t, hk => by
    have h0 : ops[k]? = some o := by simpa using (hl 0 k rfl).symm
    simp only [lexIs, Bool.and_eq_true] at hB
    obtain ⟨⟨⟨hr, hp⟩, hf⟩, hB'⟩ := hB
    exact wpAnyA_first hK h0 (by simpa [Nat.blt_eq] using hp) is.length listed F (fun j oj => Region.free_spec h0 hf j oj) (by simpa using hr) h
      (wpAnyA_is hK l is _ _ F' (by simpa using hlen) (fun j i hj => by have := hl (j + 1) i (by simpa using hj); simpa using this) hB' t hk)
/-- operation q makes a new block, waits for none, and none below p looks at it -/
def allocB (ops : Array Oper) (p q : Nat) (dq : Nat) (t : TypeId) : Bool :=
  Nat.blt q p && (match ops[q]? with
    | some o => (match o.op with | .alloc t' => Nat.beq t' t | _ => false) && (match o.dst with | some d => Nat.beq d dq | none => false) && o.guard.isNone && o.after.all (fun e => !Region.binds .any e)
    | none => false) &&
  (List.range p).all fun i => Nat.beq i q || (match ops[i]? with
    | some o => !(o.looksAt ops).contains dq && (match o.dst with | some d => !Nat.beq d dq | none => true) && o.after.all (fun e => !Region.binds .any e || !Nat.beq e.on q)
    | none => true)
theorem ready_set {listed : Array Bool} {q i p : Nat} {dq : Nat} {t : TypeId} (hA : allocB ops p q dq t = true) (hip : i < p) (hiq : i ≠ q) : i ∈ Region.ready .any ops listed ↔ i ∈ Region.ready .any ops (listed.setIfInBounds q true) := by
  constructor
  · intro h; exact ready_mono h hiq
  · intro h
    rw [mem_ready] at h ⊢
    obtain ⟨h0, o, ho, hall⟩ := h
    rw [getD_set_ne true (Ne.symm hiq)] at h0
    refine ⟨h0, o, ho, fun e he hb => ?_⟩
    have := hall e he hb
    simp only [allocB, Bool.and_eq_true, List.all_eq_true, List.mem_range] at hA
    have h2 := hA.2 i hip
    simp only [Bool.or_eq_true, ho, Bool.and_eq_true] at h2
    rcases h2 with h2 | h2
    · exact absurd (Nat.eq_of_beq_eq_true h2) hiq
    · have h3 := Array.all_eq_true_iff_forall_mem.1 h2.2 e he
      have hne : e.on ≠ q := fun hh => by rw [hb, hh] at h3; simp at h3
      rwa [getD_set_ne false (Ne.symm hne)] at this
structure AlcSt (c : Ctx) (n : Cfg) (L : List Ent) (F : Fr) (dq : Nat) (t : TypeId) (cs : List AV) (done : Bool) (H : Cells) (w : World) (a : Act) : Prop where
  no : done = false → St c H w L ∧ Fit H n F a
  yes : done = true → ∃ g, St c H w (.blk g t false cs :: L) ∧ Fit H n ((dq, .v (.pointer (some ⟨g, 0, none⟩))) :: F) a
theorem wpAny_of_B {p m q dq : Nat} {t : TypeId} {cs : List AV} {Q' : Exit → Act → World → Prop} {K : Fr → Prop} (hz : ZeroA P t cs) (hA : allocB ops p q dq t = true) (hm : ops.size = m) (hpm : p ≤ m) (hT : ∀ listed, Closed ops listed → (∃ i, i < p ∧ listed.getD i true = false) → ∀ j ∈ Region.ready .any ops listed, j < p)
    (hK : ∀ F g H w a, K F → St c H w (.blk g t false cs :: L) → Fit H n ((dq, .v (.pointer (some ⟨g, 0, none⟩))) :: F) a → wpAny P .any ops Q' (m - p) (lst p m) a w) :
    ∀ (fuel k : Nat) (done : Bool) (listed : Array Bool) (F : Fr) (H : Cells) (w : World) (a : Act), listed.size = m → Closed ops listed → unl p listed = fuel → listed.getD q false = done → (k + (if done = true then 0 else 1)) = fuel → (∀ i, p ≤ i → listed.getD i false = false) → wpAnyA P c n L ops p K k (listed.setIfInBounds q true) F → AlcSt c n L F dq t cs done H w a → wpAny P .any ops Q' (fuel + (m - p)) listed a w := by
  have hA' := hA
  simp only [allocB, Bool.and_eq_true] at hA'
  obtain ⟨⟨hqp, hq2⟩, hq3⟩ := hA'
  have hqp : q < p := by simpa [Nat.blt_eq] using hqp
  cases hoq : ops[q]? with
  | none => rw [hoq] at hq2; cases hq2
  | some oq =>
  rw [hoq] at hq2
  simp only [Bool.and_eq_true] at hq2
  obtain ⟨⟨⟨e1, e2⟩, e3⟩, e4⟩ := hq2
  have hop : oq.op = .alloc t := by
    cases ho : oq.op <;> rw [ho] at e1 <;> first | (simp only at e1; rw [Nat.eq_of_beq_eq_true e1]) | cases e1
  have hdst : oq.dst = some dq := by
    cases hd : oq.dst with
    | none => rw [hd] at e2; cases e2
    | some d => rw [hd] at e2; simp only at e2; rw [Nat.eq_of_beq_eq_true e2]
  have hgd : oq.guard = none := by simpa using e3
  intro fuel
  induction fuel with
  | zero =>
    intro k done listed F H w a hs hc hu hdn hk h1 h hst
    have hd1 : done = true := by cases done with | true => rfl | false => simp at hk
    subst hd1
    simp only [if_true, Nat.add_zero] at hk
    subst hk
    obtain ⟨g, s1, s2⟩ := hst.yes rfl
    rw [Nat.zero_add, lst_of hpm hs (unl_zero hu) h1]
    exact hK F g H w a h.2 s1 s2
  | succ fuel ih =>
    intro k done listed F H w a hs hc hu hdn hk h1 h hst
    rw [show fuel + 1 + (m - p) = (fuel + (m - p)) + 1 by omega]
    have hqr : done = false → q ∈ Region.ready .any ops listed := fun hd => by
      rw [mem_ready]
      have hql : q < listed.size := by rw [hs, ← hm]; exact (Array.getElem?_eq_some_iff.1 hoq).1
      rw [hd] at hdn
      refine ⟨by simpa [hql] using hdn, oq, hoq, fun e he hb => ?_⟩
      have := Array.all_eq_true_iff_forall_mem.1 e4 e he
      rw [hb] at this
      cases this
    refine ⟨fun h0 => ?_, fun i hi => ?_⟩
    · exfalso
      cases done with
      | false => have := hqr rfl; rw [h0] at this; cases this
      | true =>
        simp only [if_true, Nat.add_zero] at hk
        subst hk
        obtain ⟨⟨i0, hi0, hip⟩, _⟩ := h
        by_cases hiq : i0 = q
        · subst hiq
          have := (mem_ready.1 hi0).1
          have hql : i0 < listed.size := by rw [hs, ← hm]; exact (Array.getElem?_eq_some_iff.1 hoq).1
          simp [hql] at this
        · have := (ready_set (listed := listed) hA hip hiq).2 hi0
          rw [h0] at this; cases this
    · have hip := hT listed hc (unl_pos (by omega)) i hi
      obtain ⟨hun, o, ho, _⟩ := mem_ready.1 hi
      have hil : i < listed.size := by rw [hs, ← hm]; exact (Array.getElem?_eq_some_iff.1 ho).1
      have hul : unl p (listed.setIfInBounds i true) = fuel := by have := unl_set hil hun p; rw [if_pos hip] at this; omega
      unfold wpOp
      simp only [ho]
      by_cases hiq : i = q
      · subst hiq
        rw [hoq] at ho
        cases ho
        have hd0 : done = false := by
          cases done with
          | false => rfl
          | true => simp [hil] at hun hdn; rw [hun] at hdn; cases hdn
        subst hd0
        obtain ⟨s1, s2⟩ := hst.no rfl
        obtain ⟨z, z1, z2⟩ := hz.out
        rw [if_pos (by unfold Region.wanted; rw [hgd])]
        refine .inl ?_
        have hrun : (execOp a.eval oq).run P w = .ok (.value (.pointer (some ⟨w.heap.size, 0, none⟩))) (w.alloc (.cells z.cells.toList.toArray t)) := by
          cases hin : P.info? t with
          | none => rw [hin] at z1; cases z1
          | some inf =>
            rw [hin] at z1
            simp only [Option.bind_some] at z1
            simp [execOp, hop, Instr.alloc, zeroValue, typeInfo, hin, z1, newVar, newRow]
        unfold Oper.wp
        rw [hrun]
        simp only [Oper.upon, hdst]
        simp only [Bool.false_eq_true, if_false] at hk
        refine ih k true _ F H _ _ (by simpa using hs) (hc.set hi) hul (by simp [hil]) (by simp; omega) (fun j hj => by rw [getD_set_ne false (by omega)]; exact h1 j hj) (by simpa using h) ⟨fun h => (by cases h), fun _ => ⟨w.heap.size, ?_, s2.put (.v _) (some dq)⟩⟩
        have hrl : RelL H cs z.cells.toList := by rw [← z2]; exact relL_v H _
        have := s1.trans (St.new s1.hin t hrl)
        simpa using this
      · have hi' := (ready_set (listed := listed) hA hip hiq).1 hi
        cases k with
        | zero =>
          have := h.1 i hi'
          omega
        | succ k =>
          obtain ⟨r, hy, hn⟩ := h.2 i hi' hip o ho
          have h4 := hq3
          simp only [List.all_eq_true, List.mem_range] at h4
          have h5 := h4 i hip
          simp only [Bool.or_eq_true, ho, Bool.and_eq_true] at h5
          rcases h5 with h5 | h5
          · exact absurd (Nat.eq_of_beq_eq_true h5) hiq
          obtain ⟨⟨h5a, h5b⟩, h5c⟩ := h5
          have hlook : dq ∉ o.looksAt ops := by simpa using h5a
          have hdne : ∀ x, o.dst = some x → x ≠ dq := fun x hx e => by rw [hx] at h5b; simp only at h5b; rw [e] at h5b; simp at h5b
          have hcomm : (listed.setIfInBounds q true).setIfInBounds i true = (listed.setIfInBounds i true).setIfInBounds q true := Array.setIfInBounds_comm _ _ (Ne.symm hiq)
          have hdn' : (listed.setIfInBounds i true).getD q false = done := by rw [getD_set_ne false hiq]; exact hdn
          have hkk : k + (if done = true then 0 else 1) = fuel := by omega
          rw [hcomm] at hn
          have hnx : ∀ H' w' a', AlcSt c n L (putF o.dst r F) dq t cs done H' w' a' → wpAny P .any ops Q' (fuel + (m - p)) (listed.setIfInBounds i true) a' w' := fun H' w' a' hst' =>
            ih k done _ _ H' w' a' (by simpa using hs) (hc.set hi) hul hdn' hkk (fun j hj => by rw [getD_set_ne false (by omega)]; exact h1 j hj) hn hst'
          cases done with
          | false =>
            obtain ⟨s1, s2⟩ := hst.no rfl
            rcases hy.cases with ⟨_, hw, hg, hrr⟩ | ⟨hw, hrr⟩
            · rw [if_pos (wanted_fit s2.size s2.rel hw)]
              exact .inl (oper_wp_grows s1 (hg.out H w a.eval s1 (s2.reads _) o.dst o.pos o.after o.guard) fun H' w' v hl hs' hr => hnx _ _ _ ⟨fun _ => ⟨hs', (s2.mono hl).put (hrr _ _ hr) o.dst⟩, fun h => by cases h⟩)
            · rw [if_neg (by rw [wanted_fit s2.size s2.rel hw]; simp)]
              exact hnx _ _ _ ⟨fun _ => ⟨s1, s2.put (hrr _) o.dst⟩, fun h => by cases h⟩
          | true =>
            obtain ⟨g, s1, s2⟩ := hst.yes rfl
            have hy' := hy.put (d := some dq) (q := .v (.pointer (some ⟨g, 0, none⟩))) (fun x hx => by cases hx; exact hlook)
            have hfe : ∀ v : AV, FEq ((dq, .v (.pointer (some ⟨g, 0, none⟩))) :: putF o.dst v F) (putF o.dst v ((dq, .v (.pointer (some ⟨g, 0, none⟩))) :: F)) := fun v => put_comm (d := some dq) (e := o.dst) (fun x hx e => by cases hx; exact hdne _ e rfl) _ v F
            rcases hy'.cases with ⟨_, hw, hg, hrr⟩ | ⟨hw, hrr⟩
            · rw [if_pos (wanted_fit s2.size s2.rel hw)]
              exact .inl (oper_wp_grows s1 (hg.out H w a.eval (s1.sub (List.sublist_cons_self _ _)) (s2.reads _) o.dst o.pos o.after o.guard) fun H' w' v hl hs' hr => hnx _ _ _ ⟨fun h => (by cases h), fun _ => ⟨g, hs', ((s2.mono hl).put (hrr _ _ hr) o.dst).weak fun s x hx => by rw [← hfe r s]; exact hx⟩⟩)
            · rw [if_neg (by rw [wanted_fit s2.size s2.rel hw]; simp)]
              exact hnx _ _ _ ⟨fun h => (by cases h), fun _ => ⟨g, s1, (s2.put (hrr _) o.dst).weak fun s x hx => by rw [← hfe _ s]; exact hx⟩⟩
/-- what stands behind: one new block -/
def ThenB (P : Program) (c : Ctx) (n : Cfg) (ops : Array Oper) (Q : Exit → Act → World → Prop) (tail : List Oper) (dq : Nat) (t : TypeId) (cs : List AV) (L : List Ent) (F : Fr) : Prop := ∀ g, Lx P c n ops Q tail ((dq, .v (.pointer (some ⟨g, 0, none⟩))) :: F) (.blk g t false cs :: L)
theorem ThenB.congr {tail : List Oper} {dq : Nat} {t : TypeId} {cs : List AV} (F G : Fr) (h : FEq F G) (k : ThenB P c n ops Q tail dq t cs L F) : ThenB P c n ops Q tail dq t cs L G := fun g => ⟨fun H w a hs hF => (k g).out H w a hs (hF.weak fun s x hx => by have := h.put (some dq) (.v (.pointer (some ⟨g, 0, none⟩))) s; simp only [putF] at this; rw [← this]; exact hx)⟩
theorem Ox.finB {tail : List Oper} {dq : Nat} {t : TypeId} {cs : List AV} (h : ∀ g, Lx P c n ops Q tail ((dq, .v (.pointer (some ⟨g, 0, none⟩))) :: F) (.blk g t false cs :: L)) : Ox P c n ops (ThenB P c n ops Q tail dq t cs L) [] F L := Ox.nil h
theorem fm_map {l : List Oper} {m : Nat} (hl : l.length = m) : ∀ is : List Nat, (∀ x ∈ is, Nat.blt x m = true) → is.filterMap (l[·]?) = is.map fun i => l.getD i default
  | [], _ => rfl
  | i :: is, h => by
    have hi : i < l.length := by rw [hl]; have := h i (by simp); simpa [Nat.blt_eq] using this
    rw [List.filterMap_cons, List.map_cons, fm_map hl is (fun x hx => h x (by simp [hx]))]
    simp [hi]
theorem Cx.anyB {id : Nat} {l : List Oper} {m : Nat} (p q dq : Nat) (is : List Nat) {t : TypeId} {cs : List AV} (hz : ZeroA P t cs) (hm : P.follows .mixedOrders = true) (hl : l.length = m) (hpm : Nat.ble p m = true) (hd : l.all (fun o => noDef o.op) = true) (hA : allocB l.toArray p q dq t = true) (his : (Nat.beq (is.length + 1) p && is.all fun i => Nat.blt i m) = true)
    (hlex : lexIs l.toArray p is ((lst 0 m).setIfInBounds q true) = true) (htail : (Nat.beq p m || tailB l.toArray p m) = true) (hch : chainB l.toArray (m - p) p (lst p m) = true)
    (h : Ox P c n l.toArray (ThenB P c n l.toArray Q (l.drop p) dq t cs L) (is.filterMap (l[·]?)) F L) : Cx P c n (.region id l.toArray true) Q F L :=
  ⟨fun H w a hs hF _ => by
    have hpm := Nat.le_of_ble_eq_true hpm
    have hsz : l.toArray.size = m := by simpa using hl
    have his' := his
    simp only [Bool.and_eq_true, List.all_eq_true] at his'
    obtain ⟨his1, his2⟩ := his'
    have his1 := Nat.eq_of_beq_eq_true his1
    have hq : q < p := by simp only [allocB, Bool.and_eq_true] at hA; simpa [Nat.blt_eq] using hA.1.1
    have hmap := fm_map hl is his2
    refine wpIn_of_any hd hm ?_
    obtain ⟨F', h1, h2⟩ := h.out
    have hAA := wpAnyA_is (p := p) (K := ThenB P c n l.toArray Q (l.drop p) dq t cs L) (fun F G e k => k.congr F G e) (is.filterMap (l[·]?)) is ((lst 0 m).setIfInBounds q true) F F' (by rw [hmap]; simp) (fun j i hj => by
        have hi : i < l.length := by rw [hl]; have := his2 i (List.mem_of_getElem? hj); simpa [Nat.blt_eq] using this
        rw [hmap, List.getElem?_map, hj]
        simp [hi]) hlex h1 h2
    have e0 : lst 0 m = Array.replicate m false := by simp [lst]
    have := wpAny_of_B (m := m) (Q' := OnlyN Q) (K := ThenB P c n l.toArray Q (l.drop p) dq t cs L) (c := c) (n := n) (L := L) hz hA hsz hpm (fun listed hc hu j hj => by
        rcases Bool.or_eq_true _ _ ▸ htail with he | ht
        · have := Nat.eq_of_beq_eq_true he
          obtain ⟨_, o', ho', _⟩ := mem_ready.1 hj
          rw [this, ← hsz]
          exact (Array.getElem?_eq_some_iff.1 ho').1
        · exact tail_spec hsz ht listed hc hu j hj)
      (fun F g H w a k hs hF => by
        have hw := (k g).out H w a hs hF
        have := wpAny_chain (l.drop p) p (lst p m) a w (fun j hj => by simp) (by rw [List.length_drop, hl]; exact hch) hw
        rwa [List.length_drop, hl] at this) p is.length false (lst 0 m) F H _ a (by simp [lst]) (fun k o ho hk => by rw [e0] at hk; simp [Array.getElem?_replicate] at hk; split at hk <;> simp_all) (by
          rw [e0]
          have : ∀ k, k ≤ m → unl k (Array.replicate m false) = k := by
            intro k
            induction k with
            | zero => intro _; rfl
            | succ k ih =>
              intro hk
              have h3 := ih (by omega)
              simp only [unl, h3]
              rw [if_pos (by simp [show k < m by omega])]
          exact this p hpm) (by rw [e0]; simp [show q < m by omega]) (by simpa using his1) (fun i _ => by rw [e0]; simp [Array.getElem?_replicate]; split <;> simp) hAA ⟨fun _ => ⟨hs.drew, hF⟩, fun h => by cases h⟩
    rw [show p + (m - p) = m by omega, e0] at this
    rw [hsz]
    exact this⟩
end
end Go.E2
