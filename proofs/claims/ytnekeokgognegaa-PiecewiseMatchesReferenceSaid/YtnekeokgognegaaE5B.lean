/-
  The engine, texts E, F, G, H, J, N, M, P.
  Conditions: none beyond the premises of each rule.
-/
import Derived.Test.YtnekeokgognegaaE5A
import Derived.OrdersIn
namespace Go.E2
open Go.RowKit
section
variable {P : Program} {c : Ctx} {n : Cfg} {Q : Exit → Act → World → Prop} {F G : Fr} {L : List Ent} {ops : Array Oper}

def FEq (F G : Fr) : Prop := ∀ s, look F s = look G s
theorem FEq.oget (h : FEq F G) (x : Operand) : oget n F x = oget n G x := by cases x <;> simp [E2.oget, h _]
theorem FEq.put (h : FEq F G) (d : Option Tmp) (r : AV) : FEq (putF d r F) (putF d r G) := fun s => by
  cases d with
  | none => exact h s
  | some d =>
    by_cases e : d = s
    · subst e; simp [putF, look_cons_self]
    · simp [putF, look_cons_ne _ _ e, h s]
theorem FEq.symm (h : FEq F G) : FEq G F := fun s => (h s).symm
theorem put_comm {d e : Option Tmp} (hne : ∀ x, d = some x → e ≠ some x) (r q : AV) (F : Fr) : FEq (putF d r (putF e q F)) (putF e q (putF d r F)) := fun s => by
  cases d with
  | none => rfl
  | some d =>
    cases e with
    | none => rfl
    | some e =>
      have hde : d ≠ e := fun h => hne d rfl (by rw [h])
      simp only [putF]
      by_cases h1 : d = s
      · subst h1
        rw [look_cons_self, look_cons_ne _ _ (Ne.symm hde), look_cons_self]
      · rw [look_cons_ne _ _ h1]
        by_cases h2 : e = s
        · subst h2; rw [look_cons_self, look_cons_self]
        · rw [look_cons_ne _ _ h2, look_cons_ne _ _ h2, look_cons_ne _ _ h1]
theorem Gr.congr {o : Op} {ty : TypeId} {r : AV} (h : Gr P c n o ty F L r) (hx : ∀ x ∈ o.operands, oget n F x = oget n G x) : Gr P c n o ty G L r :=
  ⟨fun H w ρ hs hr d pos aft g => h.out H w ρ hs (fun x hm av hav => hr x hm av (by rw [← hx x hm]; exact hav)) d pos aft g⟩
theorem want_congr {g : Option (Nat × Bool)} (h : ∀ j b, g = some (j, b) → ∀ d, gslot ops j = some d → look F d = look G d) : wantB ops n F g = wantB ops n G g := by
  unfold wantB wantF
  cases g with
  | none => rfl
  | some jb =>
    obtain ⟨j, b⟩ := jb
    simp only
    cases hd : gslot ops j with
    | none => rfl
    | some d => simp only [h j b rfl d hd]
/-- operation o leaves r in its slot -/
def YieldsA (P : Program) (c : Ctx) (n : Cfg) (L : List Ent) (ops : Array Oper) (o : Oper) (F : Fr) (r : AV) : Prop :=
  ∃ b q, wantB ops n F o.guard = some b ∧ (b = true → Gr P c n o.op o.type F L q) ∧ ((b = true ∧ r = q) ∨ (b = false ∧ r = .v undef) ∨ r = .opt b q)
theorem YieldsA.run {o : Oper} {r : AV} (h : wantB ops n F o.guard = some true ∧ Gr P c n o.op o.type F L r) : YieldsA P c n L ops o F r := ⟨true, r, h.1, fun _ => h.2, .inl ⟨rfl, rfl⟩⟩
theorem YieldsA.not {o : Oper} {r : AV} (h : wantB ops n F o.guard = some false ∧ r = .v undef) : YieldsA P c n L ops o F r := ⟨false, r, h.1, fun e => (by cases e), .inr (.inl ⟨rfl, h.2⟩)⟩
theorem YieldsA.cases {o : Oper} {r : AV} (h : YieldsA P c n L ops o F r) : (∃ q, wantB ops n F o.guard = some true ∧ Gr P c n o.op o.type F L q ∧ ∀ H v, Rel H q v → Rel H r v) ∨ (wantB ops n F o.guard = some false ∧ ∀ H, Rel H r undef) := by
  obtain ⟨b, q, h1, h2, h3⟩ := h
  cases b with
  | true =>
    refine .inl ⟨q, h1, h2 rfl, fun H v hr => ?_⟩
    rcases h3 with ⟨_, rfl⟩ | ⟨e, _⟩ | rfl
    · exact hr
    · cases e
    · exact .opt (fun _ => hr) (fun e => by cases e)
  | false =>
    refine .inr ⟨h1, fun H => ?_⟩
    rcases h3 with ⟨e, _⟩ | ⟨_, rfl⟩ | rfl
    · cases e
    · exact .v _
    · exact .opt (fun e => by cases e) (fun _ => rfl)
theorem YieldsA.congr {o : Oper} {r : AV} (h : YieldsA P c n L ops o F r) (hx : ∀ d, d ∈ o.looksAt ops → look F d = look G d) : YieldsA P c n L ops o G r := by
  have hw : wantB ops n F o.guard = wantB ops n G o.guard := want_congr fun j b hg d hd => hx d (by
    unfold Oper.looksAt
    unfold gslot at hd
    refine List.mem_append_right _ ?_
    simp [hg, hd])
  obtain ⟨b, q, h1, h2, h3⟩ := h
  refine ⟨b, q, by rw [← hw]; exact h1, fun e => (h2 e).congr fun x hm => ?_, h3⟩
  cases x with
  | tmp t =>
    simp only [oget]
    rw [hx t (List.mem_append_left _ (List.mem_filterMap.2 ⟨.tmp t, by simpa using hm, rfl⟩))]
  | _ => rfl
theorem YieldsA.put {o : Oper} {r q : AV} {d : Option Tmp} (h : YieldsA P c n L ops o F r) (hd : ∀ x, d = some x → x ∉ o.looksAt ops) : YieldsA P c n L ops o (putF d q F) r :=
  h.congr fun s hs => by
    cases d with
    | none => rfl
    | some d => simp only [putF]; rw [look_cons_ne]; intro e; subst e; exact hd d rfl hs
theorem YieldsA.unput {o : Oper} {r q : AV} {d : Option Tmp} (h : YieldsA P c n L ops o (putF d q F) r) (hd : ∀ x, d = some x → x ∉ o.looksAt ops) : YieldsA P c n L ops o F r :=
  h.congr fun s hs => by
    cases d with
    | none => rfl
    | some d => simp only [putF]; rw [look_cons_ne]; intro e; subst e; exact hd d rfl hs
/-- whatever order is picked among the operations below p -/
def wpAnyA (P : Program) (c : Ctx) (n : Cfg) (L : List Ent) (ops : Array Oper) (p : Nat) (K : Fr → Prop) : Nat → Array Bool → Fr → Prop
  | 0, listed, F => (∀ i ∈ Region.ready .any ops listed, p ≤ i) ∧ K F
  | fuel + 1, listed, F => (∃ i, i ∈ Region.ready .any ops listed ∧ i < p) ∧ ∀ i ∈ Region.ready .any ops listed, i < p → ∀ o, ops[i]? = some o → ∃ r, YieldsA P c n L ops o F r ∧ wpAnyA P c n L ops p K fuel (listed.setIfInBounds i true) (putF o.dst r F)
theorem wpAnyA.congr {p : Nat} {K : Fr → Prop} (hK : ∀ F G, FEq F G → K F → K G) : ∀ (fuel : Nat) (listed : Array Bool) (F G : Fr), FEq F G → wpAnyA P c n L ops p K fuel listed F → wpAnyA P c n L ops p K fuel listed G
  | 0, _, F, G, he, h => ⟨h.1, hK F G he h.2⟩
  | fuel + 1, listed, F, G, he, h => ⟨h.1, fun i hi hp o ho => by
    obtain ⟨r, h1, h2⟩ := h.2 i hi hp o ho
    exact ⟨r, h1.congr fun d _ => he d, wpAnyA.congr hK fuel _ _ _ (he.put o.dst r) h2⟩⟩
theorem wpAnyA_first {p i : Nat} {oi : Oper} {v : AV} {K : Fr → Prop} (hK : ∀ F G, FEq F G → K F → K G) (hi : ops[i]? = some oi) (hip : i < p) :
    ∀ (fuel : Nat) (listed : Array Bool) (F : Fr),
      (∀ j oj, ops[j]? = some oj → j ≠ i → listed.getD j true = false → (∀ e ∈ oj.after, Region.binds .any e = true → e.on ≠ i) → oi.apart ops oj = true) →
      i ∈ Region.ready .any ops listed → YieldsA P c n L ops oi F v →
      wpAnyA P c n L ops p K fuel (listed.setIfInBounds i true) (putF oi.dst v F) → wpAnyA P c n L ops p K (fuel + 1) listed F := by
  intro fuel
  induction fuel with
  | zero =>
    intro listed F _ hr hy h
    refine ⟨⟨i, hr, hip⟩, fun j hj hjp o ho => ?_⟩
    by_cases hji : j = i
    · subst hji; rw [hi] at ho; cases ho; exact ⟨v, hy, h⟩
    · have := h.1 j (ready_mono hj hji)
      omega
  | succ fuel ih =>
    intro listed F hfree hr hy h
    refine ⟨⟨i, hr, hip⟩, fun j hj hjp oj hoj => ?_⟩
    by_cases hji : j = i
    · subst hji; rw [hi] at hoj; cases hoj; exact ⟨v, hy, h⟩
    · obtain ⟨u, h1, h2⟩ := h.2 j (ready_mono hj hji) hjp oj hoj
      obtain ⟨hjun, oj', hoj', hall⟩ := mem_ready.1 hj
      rw [hoj] at hoj'
      cases hoj'
      have hnot : ∀ e ∈ oj.after, Region.binds .any e = true → e.on ≠ i := fun e he hb heq => by
        have h1 := hall e he hb
        have h0 := (mem_ready.1 hr).1
        rw [heq] at h1
        rcases Nat.lt_or_ge i listed.size with h' | h'
        · simp [h'] at h0 h1; rw [h0] at h1; cases h1
        · simp [Array.getElem?_eq_none h'] at h1
      obtain ⟨p1, p2, p3⟩ := Oper.apart_spec (hfree j oj hoj hji hjun hnot)
      refine ⟨u, h1.unput p1, ih (listed.setIfInBounds j true) _ ?_ (ready_mono hr (Ne.symm hji)) (hy.put p3) ?_⟩
      · intro k ok hk hki hun hno
        refine hfree k ok hk hki ?_ hno
        by_cases hjk : j = k
        · subst hjk; exact hjun
        · rw [getD_set_ne true hjk] at hun; exact hun
      · rw [Array.setIfInBounds_comm _ _ hji]
        exact wpAnyA.congr hK _ _ _ _ ((put_comm p2 v u F).symm) h2
/-- the lexical run -/
inductive RunA (P : Program) (c : Ctx) (n : Cfg) (L : List Ent) (ops : Array Oper) : List Oper → Fr → Fr → Prop
  | nil {F : Fr} : RunA P c n L ops [] F F
  | cons {o : Oper} {l : List Oper} {F F' : Fr} {r : AV} (h : YieldsA P c n L ops o F r) (t : RunA P c n L ops l (putF o.dst r F) F') : RunA P c n L ops (o :: l) F F'
/-- the lexical order will do for the operations below p -/
def lexTo (ops : Array Oper) (p : Nat) : Nat → Nat → Array Bool → Bool
  | 0, _, listed => (Region.ready .any ops listed).all fun i => Nat.ble p i
  | fuel + 1, k, listed => (Region.ready .any ops listed).contains k && Nat.blt k p && Region.free .any ops listed k && lexTo ops p fuel (k + 1) (listed.setIfInBounds k true)
theorem wpAnyA_lex {p : Nat} {K : Fr → Prop} (hK : ∀ F G, FEq F G → K F → K G) : ∀ (l : List Oper) (k : Nat) (listed : Array Bool) (F F' : Fr), (∀ j, j < l.length → l[j]? = ops[k + j]?) →
    lexTo ops p l.length k listed = true → RunA P c n L ops l F F' → K F' → wpAnyA P c n L ops p K l.length listed F
  | [], _, _, _, _, _, hB, .nil, hk => ⟨fun i hi => by
      simp only [List.length_nil, lexTo, List.all_eq_true] at hB
      exact Nat.le_of_ble_eq_true (hB i hi), hk⟩
  | o :: l, k, listed, F, F', hl, hB, .cons h t, hk => by
    have h0 : ops[k]? = some o := by simpa using (hl 0 (by simp)).symm
    simp only [List.length_cons, lexTo, Bool.and_eq_true] at hB
    obtain ⟨⟨⟨hr, hp⟩, hf⟩, hB'⟩ := hB
    exact wpAnyA_first hK h0 (by simpa [Nat.blt_eq] using hp) l.length listed F (fun j oj => Region.free_spec h0 hf j oj) (by simpa using hr) h
      (wpAnyA_lex hK l (k + 1) _ _ F' (fun j hj => by have := hl (j + 1) (by simpa using hj); simpa [Nat.add_assoc, Nat.add_comm 1 j] using this) hB' t hk)
/-- what is listed is closed -/
def Closed (ops : Array Oper) (listed : Array Bool) : Prop := ∀ k o, ops[k]? = some o → listed.getD k false = true → ∀ e ∈ o.after, Region.binds .any e = true → listed.getD e.on false = true
theorem Closed.set {listed : Array Bool} {i : Nat} (h : Closed ops listed) (hi : i ∈ Region.ready .any ops listed) : Closed ops (listed.setIfInBounds i true) := fun k o ho hk e he hb => by
  by_cases e1 : i = k
  · subst e1
    obtain ⟨_, o', ho', hall⟩ := mem_ready.1 hi
    rw [ho] at ho'
    cases ho'
    exact getD_set_true (hall e he hb)
  · rw [getD_set_ne false e1] at hk
    exact getD_set_true (h k o ho hk e he hb)
def unl : Nat → Array Bool → Nat
  | 0, _ => 0
  | k + 1, a => unl k a + (if a.getD k true = false then 1 else 0)
theorem unl_set {listed : Array Bool} {i : Nat} (hs : i < listed.size) (hu : listed.getD i true = false) : ∀ k, unl k (listed.setIfInBounds i true) + (if i < k then 1 else 0) = unl k listed
  | 0 => by simp [unl]
  | k + 1 => by
    have ih := unl_set hs hu k
    simp only [unl]
    by_cases e : i = k
    · subst e
      rw [if_neg (by simp)] at ih
      simp only [Nat.add_zero] at ih
      have e1 : (if i < i + 1 then 1 else 0) = 1 := if_pos (by omega)
      rw [ih, if_neg (by simp [hs]), e1, if_pos hu]
    · rw [getD_set_ne true e]
      by_cases h : i < k
      · have e1 : (if i < k + 1 then 1 else 0) = 1 := if_pos (by omega)
        rw [if_pos h] at ih
        rw [e1]
        omega
      · have e1 : (if i < k + 1 then 1 else 0) = 0 := if_neg (by omega)
        rw [if_neg h] at ih
        rw [e1]
        omega
theorem unl_pos {listed : Array Bool} : ∀ {k : Nat}, 0 < unl k listed → ∃ i, i < k ∧ listed.getD i true = false
  | 0, h => by simp [unl] at h
  | k + 1, h => by
    simp only [unl] at h
    by_cases e : listed.getD k true = false
    · exact ⟨k, by omega, e⟩
    · rw [if_neg e] at h
      obtain ⟨i, h1, h2⟩ := unl_pos (k := k) (by omega)
      exact ⟨i, by omega, h2⟩
theorem unl_zero {listed : Array Bool} : ∀ {k : Nat}, unl k listed = 0 → ∀ i, i < k → listed.getD i true = true
  | 0, _, i, h => by omega
  | k + 1, h, i, hi => by
    simp only [unl] at h
    by_cases e : listed.getD k true = false
    · rw [if_pos e] at h; omega
    · rcases Nat.lt_or_ge i k with h1 | h1
      · exact unl_zero (k := k) (by omega) i h1
      · have : i = k := by omega
        subst this
        simpa using e
def lst (p m : Nat) : Array Bool := (List.replicate p true ++ List.replicate (m - p) false).toArray
theorem lst_of {listed : Array Bool} {p m : Nat} (hp : p ≤ m) (hs : listed.size = m) (h0 : ∀ i, i < p → listed.getD i true = true) (h1 : ∀ i, p ≤ i → listed.getD i false = false) : listed = lst p m := by
  apply Array.ext
  · simp [lst, hs]; omega
  · intro i h2 h3
    have e : (lst p m)[i] = if i < p then true else false := by
      simp only [lst, List.getElem_toArray]
      rw [List.getElem_append]
      simp only [List.length_replicate]
      split <;> simp
    rw [e]
    by_cases h : i < p
    · have := h0 i h; simp [h2] at this; simp [h, this]
    · have := h1 i (by omega); simp [h2] at this; simp [h, this]
theorem wpAny_of_A {p m : Nat} {Q' : Exit → Act → World → Prop} {K : Fr → Prop} (hm : ops.size = m) (hpm : p ≤ m) (hT : ∀ listed, Closed ops listed → (∃ i, i < p ∧ listed.getD i true = false) → ∀ j ∈ Region.ready .any ops listed, j < p)
    (hK : ∀ F H w a, K F → St c H w L → Fit H n F a → wpAny P .any ops Q' (m - p) (lst p m) a w) :
    ∀ (fuel : Nat) (listed : Array Bool) (F : Fr) (H : Cells) (w : World) (a : Act), listed.size = m → Closed ops listed → unl p listed = fuel → (∀ i, p ≤ i → listed.getD i false = false) → wpAnyA P c n L ops p K fuel listed F → St c H w L → Fit H n F a → wpAny P .any ops Q' (fuel + (m - p)) listed a w
  | 0, listed, F, H, w, a, hs, _, hu, h1, h, hst, hF => by
    rw [Nat.zero_add, lst_of hpm hs (unl_zero hu) h1]
    exact hK F H w a h.2 hst hF
  | fuel + 1, listed, F, H, w, a, hs, hc, hu, h1, h, hst, hF => by
    rw [show fuel + 1 + (m - p) = (fuel + (m - p)) + 1 by omega]
    obtain ⟨⟨i0, hi0, _⟩, hall⟩ := h
    refine ⟨fun h0 => (by rw [h0] at hi0; cases hi0), fun i hi => ?_⟩
    have hip := hT listed hc (unl_pos (by omega)) i hi
    obtain ⟨hun, o, ho, _⟩ := mem_ready.1 hi
    have hil : i < listed.size := by rw [hs, ← hm]; exact (Array.getElem?_eq_some_iff.1 ho).1
    obtain ⟨r, hy, hn⟩ := hall i hi hip o ho
    have hnext : ∀ H' w' v, H.le H' → St c H' w' L → Rel H' r v → wpAny P .any ops Q' (fuel + (m - p)) (listed.setIfInBounds i true) (a.put o.dst v) w' := fun H' w' v hl hs' hr =>
      wpAny_of_A hm hpm hT hK fuel _ _ H' w' _ (by simpa using hs) (hc.set hi) (by have := unl_set hil hun p; rw [if_pos hip] at this; omega) (fun j hj => by rw [getD_set_ne false (by omega)]; exact h1 j hj) hn hs' ((hF.mono hl).put hr o.dst)
    unfold wpOp
    simp only [ho]
    obtain ⟨b, q, hw, hg, h3⟩ := hy
    cases b with
    | true =>
      rw [if_pos (wanted_fit hF.size hF.rel hw)]
      exact .inl (oper_wp_grows hst ((hg rfl).out H w a.eval hst (hF.reads _) o.dst o.pos o.after o.guard) fun H' w' v hl hs' hr => hnext H' w' v hl hs' (by
        rcases h3 with ⟨_, rfl⟩ | ⟨e, _⟩ | rfl
        · exact hr
        · cases e
        · exact .opt (fun _ => hr) (fun e => by cases e)))
    | false =>
      rw [if_neg (by rw [wanted_fit hF.size hF.rel hw]; simp)]
      exact hnext H w undef (Cells.le_refl _) hst (by
        rcases h3 with ⟨e, _⟩ | ⟨_, rfl⟩ | rfl
        · cases e
        · exact .v _
        · exact .opt (fun e => by cases e) (fun _ => rfl))
/-- the tail: one after the other -/
def chainB (ops : Array Oper) : Nat → Nat → Array Bool → Bool
  | 0, _, listed => (Region.ready .any ops listed).isEmpty
  | fuel + 1, k, listed => (Region.ready .any ops listed == [k]) && chainB ops fuel (k + 1) (listed.setIfInBounds k true)
theorem wpAny_chain {Q' : Exit → Act → World → Prop} : ∀ (l : List Oper) (k : Nat) (listed : Array Bool) (a : Act) (w : World), (∀ j, j < l.length → l[j]? = ops[k + j]?) → chainB ops l.length k listed = true → wpList P ops Q' l a w → wpAny P .any ops Q' l.length listed a w
  | [], _, _, _, _, _, hB, h => ⟨by simpa [chainB] using hB, h⟩
  | o :: l, k, listed, a, w, hl, hB, h => by
    have h0 : ops[k]? = some o := by simpa using (hl 0 (by simp)).symm
    simp only [List.length_cons, chainB, Bool.and_eq_true, beq_iff_eq] at hB
    refine ⟨fun h1 => (by rw [hB.1] at h1; cases h1), fun i hi => ?_⟩
    rw [hB.1] at hi
    simp only [List.mem_singleton] at hi
    subst hi
    have hn : ∀ a w, wpList P ops Q' l a w → wpAny P .any ops Q' l.length (listed.setIfInBounds i true) a w := fun a w h => wpAny_chain l (i + 1) _ a w (fun j hj => by have := hl (j + 1) (by simpa using hj); simpa [Nat.add_assoc, Nat.add_comm 1 j] using this) hB.2 h
    unfold wpOp
    simp only [h0]
    unfold wpList at h
    split at h
    · rename_i hw; rw [if_pos hw]; exact h.imp (Oper.wp_mono hn) id
    · rename_i hw; rw [if_neg hw]; exact hn _ _ h
/-- every operation below p is waited for by a later one below p, or by p itself -/
def edgeB (ops : Array Oper) (t i : Nat) : Bool := ((ops[t]?).map fun o => o.after.any fun e => Region.binds .any e && Nat.beq e.on i).getD false
def tailB (ops : Array Oper) (p m : Nat) : Bool :=
  ((List.range p).all fun i => edgeB ops p i || (List.range p).any fun k => Nat.blt i k && edgeB ops k i) && (List.range m).all fun t => Nat.ble t p || edgeB ops t (t - 1)
theorem edgeB_spec {t i : Nat} (h : edgeB ops t i = true) : ∃ o, ops[t]? = some o ∧ ∃ e ∈ o.after, Region.binds .any e = true ∧ e.on = i := by
  unfold edgeB at h
  cases ho : ops[t]? with
  | none => rw [ho] at h; simp at h
  | some o =>
    rw [ho] at h
    simp only [Option.map_some, Option.getD_some] at h
    obtain ⟨e, he, hb⟩ := Array.any_eq_true'.1 h
    simp only [Bool.and_eq_true] at hb
    exact ⟨o, rfl, e, he, hb.1, Nat.eq_of_beq_eq_true hb.2⟩
theorem tail_spec {p m : Nat} (hm : ops.size = m) (h : tailB ops p m = true) (listed : Array Bool) (hc : Closed ops listed) (hu : ∃ i, i < p ∧ listed.getD i true = false) : ∀ j ∈ Region.ready .any ops listed, j < p := by
  simp only [tailB, Bool.and_eq_true, List.all_eq_true, List.mem_range, Bool.or_eq_true, List.any_eq_true] at h
  obtain ⟨h1, h2⟩ := h
  have hof : ∀ i, listed.getD i true = false → listed.getD i false = false := fun i hi => by
    rcases Nat.lt_or_ge i listed.size with hlt | hge
    · simpa [hlt] using hi
    · simp [Array.getElem?_eq_none hge]
  -- p waits for one that is not listed
  have hp : ∃ i, edgeB ops p i = true ∧ listed.getD i false = false := by
    obtain ⟨i, hi, hul⟩ := hu
    have hul := hof i hul
    have : ∀ f i, p - i ≤ f → i < p → listed.getD i false = false → ∃ i, edgeB ops p i = true ∧ listed.getD i false = false := by
      intro f
      induction f with
      | zero => intro i h0 hi _; omega
      | succ f ih =>
        intro i h0 hi hul
        rcases h1 i hi with he | ⟨k, hk, hkb⟩
        · exact ⟨i, he, hul⟩
        · have hik : i < k := by simpa [Nat.blt_eq] using hkb.1
          refine ih k (by omega) (by simpa using hk) ?_
          cases hkl : listed.getD k false with
          | false => rfl
          | true =>
            obtain ⟨o, ho, e, he, hb, heq⟩ := edgeB_spec hkb.2
            have := hc k o ho hkl e he hb
            rw [heq, hul] at this
            cases this
    exact this _ i (Nat.le_refl _) hi hul
  -- none from p on is listed or ready
  have hno : ∀ t, p ≤ t → t < m → listed.getD t false = false ∧ t ∉ Region.ready .any ops listed := by
    intro t
    induction t using Nat.strongRecOn with
    | ind t ih =>
      intro ht htm
      have hedge : ∀ i, edgeB ops t i = true → listed.getD i false = false → listed.getD t false = false ∧ t ∉ Region.ready .any ops listed := fun i he hl => by
        obtain ⟨o, ho, e, hem, hb, heq⟩ := edgeB_spec he
        constructor
        · cases hkl : listed.getD t false with
          | false => rfl
          | true => have := hc t o ho hkl e hem hb; rw [heq, hl] at this; cases this
        · intro hr
          obtain ⟨_, o', ho', hall⟩ := mem_ready.1 hr
          rw [ho] at ho'
          cases ho'
          have := hall e hem hb
          rw [heq, hl] at this
          cases this
      rcases Nat.lt_or_ge p t with hlt | hge
      · rcases h2 t htm with hle | he
        · have := Nat.le_of_ble_eq_true hle; omega
        · exact hedge (t - 1) he (ih (t - 1) (by omega) (by omega) (by omega)).1
      · have : t = p := by omega
        subst this
        obtain ⟨i, he, hl⟩ := hp
        exact hedge i he hl
  intro j hj
  rcases Nat.lt_or_ge j p with h | h
  · exact h
  · obtain ⟨_, o', ho', _⟩ := mem_ready.1 hj
    exact absurd hj (hno j h (by rw [← hm]; exact (Array.getElem?_eq_some_iff.1 ho').1)).2

/-! the rules -/
structure Ox (P : Program) (c : Ctx) (n : Cfg) (ops : Array Oper) (K : Fr → Prop) (l : List Oper) (F : Fr) (L : List Ent) : Prop where
  out : ∃ F', RunA P c n L ops l F F' ∧ K F'
theorem Ox.nil {K : Fr → Prop} (h : K F) : Ox P c n ops K [] F L := ⟨F, .nil, h⟩
variable {d : Option Tmp} {o : Op} {ty : TypeId} {pos : String} {aft : Array Edge} {g : Option (Nat × Bool)} {rest : List Oper}
theorem Ox.gr {K : Fr → Prop} {r : AV} (hg : wantB ops n F g = some true) (h : Gr P c n o ty F L r) (k : Ox P c n ops K rest (putF d r F) L) : Ox P c n ops K (⟨d, o, ty, pos, aft, g⟩ :: rest) F L :=
  let ⟨F', h1, h2⟩ := k.out; ⟨F', .cons (.run ⟨hg, h⟩) h1, h2⟩
theorem Ox.skip {K : Fr → Prop} (hg : wantB ops n F g = some false) (k : Ox P c n ops K rest (putF d (.v undef) F) L) : Ox P c n ops K (⟨d, o, ty, pos, aft, g⟩ :: rest) F L :=
  let ⟨F', h1, h2⟩ := k.out; ⟨F', .cons (.not ⟨hg, rfl⟩) h1, h2⟩
/-- part on a Bool ahead of the region -/
theorem RunA.shadow {l : List Oper} {F' : Fr} (h : RunA P c n L ops l F F') : ∀ {G : Fr}, FEq F G → ∃ G', RunA P c n L ops l G G' ∧ FEq F' G' := by
  induction h with
  | nil => intro G e; exact ⟨G, .nil, e⟩
  | cons h t ih =>
    intro G e
    obtain ⟨G', h1, h2⟩ := ih (e.put _ _)
    exact ⟨G', .cons (h.congr fun d _ => e d) h1, h2⟩
theorem Ox.split {K : Fr → Prop} (hK : ∀ F G, FEq F G → K F → K G) {l : List Oper} (s : Nat) {b : Bool} (hv : look F s = some (.v (.bool b))) (ht : b = true → Ox P c n ops K l ((s, .v (.bool true)) :: F) L) (hf : b = false → Ox P c n ops K l ((s, .v (.bool false)) :: F) L) : Ox P c n ops K l F L := by
  have e : FEq ((s, .v (.bool b)) :: F) F := fun t => by
    by_cases h : s = t
    · subst h; rw [look_cons_self, hv]
    · rw [look_cons_ne _ _ h]
  cases b with
  | true =>
    obtain ⟨F', h1, h2⟩ := (ht rfl).out
    obtain ⟨G', h3, h4⟩ := h1.shadow e
    exact ⟨G', h3, hK _ _ h4 h2⟩
  | false =>
    obtain ⟨F', h1, h2⟩ := (hf rfl).out
    obtain ⟨G', h3, h4⟩ := h1.shadow e
    exact ⟨G', h3, hK _ _ h4 h2⟩
/-- what stands behind the operations below p -/
def Then (P : Program) (c : Ctx) (n : Cfg) (ops : Array Oper) (Q : Exit → Act → World → Prop) (tail : List Oper) (L : List Ent) (F : Fr) : Prop := Lx P c n ops Q tail F L
theorem Then.congr {tail : List Oper} (F G : Fr) (h : FEq F G) (k : Then P c n ops Q tail L F) : Then P c n ops Q tail L G := ⟨fun H w a hs hF => k.out H w a hs (hF.weak fun s x hx => by rw [← h s]; exact hx)⟩
theorem Ox.fin {tail : List Oper} (h : Lx P c n ops Q tail F L) : Ox P c n ops (Then P c n ops Q tail L) [] F L := Ox.nil h
theorem Cx.any {id : Nat} {l : List Oper} {m : Nat} (p : Nat) (hm : P.follows .mixedOrders = true) (hl : l.length = m) (hpm : Nat.ble p m = true) (hd : l.all (fun o => noDef o.op) = true)
    (hlex : lexTo l.toArray p p 0 (lst 0 m) = true) (htail : (Nat.beq p m || tailB l.toArray p m) = true) (hch : chainB l.toArray (m - p) p (lst p m) = true)
    (h : Ox P c n l.toArray (Then P c n l.toArray Q (l.drop p) L) (l.take p) F L) : Cx P c n (.region id l.toArray true) Q F L :=
  ⟨fun H w a hs hF _ => by
    have hpm := Nat.le_of_ble_eq_true hpm
    have hsz : l.toArray.size = m := by simpa using hl
    have hlt : (l.take p).length = p := by simp; omega
    refine wpIn_of_any hd hm ?_
    obtain ⟨F', h1, h2⟩ := h.out
    have hA := wpAnyA_lex (p := p) (K := Then P c n l.toArray Q (l.drop p) L) (fun F G e k => k.congr F G e) (l.take p) 0 (lst 0 m) F F' (fun j hj => by rw [hlt] at hj; rw [List.getElem?_take, if_pos hj]; simp) (by rw [hlt]; exact hlex) h1 h2
    rw [hlt] at hA
    have e0 : lst 0 m = Array.replicate m false := by simp [lst]
    have := wpAny_of_A (m := m) (Q' := OnlyN Q) hsz hpm (fun listed hc hu j hj => by
        rcases Bool.or_eq_true _ _ ▸ htail with he | ht
        · have := Nat.eq_of_beq_eq_true he
          obtain ⟨_, o', ho', _⟩ := mem_ready.1 hj
          rw [this, ← hsz]
          exact (Array.getElem?_eq_some_iff.1 ho').1
        · exact tail_spec hsz ht listed hc hu j hj)
      (fun F H w a k hs hF => by
        have hw := k.out H w a hs hF
        have := wpAny_chain (l.drop p) p (lst p m) a w (fun j hj => by simp) (by rw [List.length_drop, hl]; exact hch) hw
        rwa [List.length_drop, hl] at this) p (lst 0 m) F H _ a (by simp [lst]) (fun k o ho hk => by rw [e0] at hk; simp [Array.getElem?_replicate] at hk; split at hk <;> simp_all) (by
          rw [e0]
          have : ∀ k, k ≤ m → unl k (Array.replicate m false) = k := by
            intro k
            induction k with
            | zero => intro _; rfl
            | succ k ih =>
              intro hk
              have h3 := ih (by omega)
              simp only [unl, h3]
              rw [if_pos (by simp [show k < m by omega])]
          exact this p hpm) (fun i _ => by rw [e0]; simp [Array.getElem?_replicate]; split <;> simp) hA hs.drew hF
    rw [show p + (m - p) = m by omega, e0] at this
    rw [hsz]
    exact this⟩
end
end Go.E2
namespace Go.E2
open Go.RowKit
section
variable {P : Program} {c : Ctx} {n : Cfg} {Q : Exit → Act → World → Prop} {F : Fr} {L : List Ent} {ops : Array Oper} {ty : TypeId}
variable {d : Option Tmp} {o : Op} {pos : String} {aft : Array Edge} {gd : Option (Nat × Bool)} {rest : List Oper} {H : Cells} {w : World}
theorem Lx.sub {l : List Oper} {L' : List Ent} (hs : L'.Sublist L) (k : Lx P c n ops Q l F L') : Lx P c n ops Q l F L := ⟨fun H w a h hF => k.out H w a (h.sub hs) hF⟩
theorem Lx.tl {l : List Oper} {e : Ent} (k : Lx P c n ops Q l F L) : Lx P c n ops Q l F (e :: L) := k.sub (List.sublist_cons_self _ _)
theorem Cx.tl {x : Code} {e : Ent} (k : Cx P c n x Q F L) : Cx P c n x Q F (e :: L) := ⟨fun H w a h hF => k.out H w a (h.sub (List.sublist_cons_self _ _)) hF⟩

/-! slice literals -/
structure BslT (P : Program) (t e : TypeId) (len size : Nat) (ps : List (Nat × AV)) (xs : List AV) : Prop where
  und : P.underlying t = some (.slice e)
  sz : (P.info? e).map (·.size) = some size
  pos : 0 < size
  hlen : xs.length = len
  small : len * size ≤ 16777216
  cells : ∀ x ∈ xs, x.cells.length = size
  zero : ∃ z, (P.info? e).bind (·.zero) = some z ∧ fillA (fun i => some (i * size, size)) (((Array.range (len * size)).map (z.cells[· % z.cells.size]!)).toList.map AV.v) ps = some (xs.flatMap AV.cells)
theorem St.newRow {w : World} (hi : HIn H w) (e : TypeId) (len size : Nat) {xs : List AV} {us : List Value} (hlen : xs.length = len) (_hp : 0 < size) (hsm : len ≤ maxLen) (hc : ∀ x ∈ xs, x.cells.length = size) (hr : RelL H (xs.flatMap AV.cells) us) :
    St ⟨w, H⟩ H (w.alloc (.cells us.toArray e)) [.row (.slice (some ⟨w.heap.size, 0, none⟩) len len) e size 0 false xs] := by
  have hflat : ∀ l : List AV, (∀ x ∈ l, x.cells.length = size) → (l.flatMap AV.cells).length = l.length * size := fun l => by
    induction l with
    | nil => simp
    | cons a l ih =>
      intro h
      rw [List.flatMap_cons, List.length_append, h a (by simp), ih (fun x hx => h x (by simp [hx])), List.length_cons, Nat.succ_mul]
      omega
  have hl : us.length = len * size := by rw [← hr.len, hflat xs hc, hlen]
  refine ⟨(Below.refl _ _).alloc (Nat.le_refl _) _, Cells.le_refl _, hin_heap hi (fun b o u hu => Below.heap_alloc _ _ _ (hi.lt hu)), fun _ _ _ h _ => h, ?_, by simp, Nat.le_refl _⟩
  intro x hx
  simp only [List.mem_singleton] at hx
  subst hx
  refine ⟨us, ⟨by rw [hl, hlen], .inr ⟨w.heap.size, len, us.toArray, by rw [hlen], Nat.le_refl _, heap_alloc_new w _, by omega, hsm, by simp [hl], ?_⟩⟩, hr, hc, by omega, fun g hg o _ => ?_, fun h => by cases h⟩
  · rw [hlen, ← hl]; simp
  · simp only [Value.ownBlock, Option.some.injEq] at hg
    subst hg
    cases hu : H w.heap.size o with
    | none => rfl
    | some u => have := hi.lt hu; omega
theorem bsl_run {w : World} {ρ : Operand → Value} {t e : TypeId} {len size : Nat} {xs : List (Nat × Operand)} {ps : List (Nat × AV)} {es : List AV} (hr : Reads H n F (Op.buildSlice t len xs.toArray).operands ρ) (hv : ogetp n F xs = some ps) (hb : BslT P t e len size ps es) (d : Option Tmp) (pos : String) (aft : Array Edge) (gd : Option (Nat × Bool)) :
    ∃ us, (execOp ρ ⟨d, .buildSlice t len xs.toArray, ty, pos, aft, gd⟩).run P w = .ok (.value (.slice (some ⟨w.heap.size, 0, none⟩) len len)) (w.alloc (.cells us.toArray e)) ∧ RelL H (es.flatMap AV.cells) us ∧ len ≤ maxLen := by
  obtain ⟨z, hz, hf⟩ := hb.zero
  have hp := hr.parts (xs := xs) (fun p hp => by simp only [Op.operands, List.mem_toArray, List.mem_map]; exact ⟨p, by simpa using hp, rfl⟩) hv
  obtain ⟨us, e1, hu⟩ := fill_rel _ hp (relL_v H _) hf
  have hlm : len ≤ maxLen := by
    have h1 := hb.small
    have h2 : len * 1 ≤ len * size := Nat.mul_le_mul_left _ hb.pos
    unfold maxLen; omega
  refine ⟨us, ?_, hu, hlm⟩
  cases hi : P.info? e with
  | none => rw [hi] at hz; cases hz
  | some i =>
    rw [hi] at hz
    simp only [Option.bind_some] at hz
    have e2 : (xs.toArray.map fun x => match x with | (i, x) => (i, ρ x)) = (xs.map fun p => (p.1, ρ p.2)).toArray := by simp
    simp only [execOp, e2]
    by_cases h0 : len * size = 0
    · have hl0 : len = 0 := by rcases Nat.mul_eq_zero.1 h0 with h | h; exact h; have := hb.pos; omega
      rw [Array.toArray_toList, h0] at e1
      have hsm : ¬ (len * size > 2 ^ 24) := by have := hb.small; omega
      simp only [Instr.buildSlice, Sem.run_bind, run_und hb.und, run_sizeOf' hb.sz, Result.andThen_ok, h0, if_true]
      have e5 : Array.map (fun x => z.cells[x % z.cells.size]!) (Array.range 0) = #[] := by simp [Array.range]
      have e6 : Array.range 0 = #[] := by simp [Array.range]
      rw [e5] at e1
      simp [newRow, e6, e1]
    · have hsm : ¬ (len * size > 2 ^ 24) := by have := hb.small; omega
      rw [Array.toArray_toList] at e1
      simp only [Instr.buildSlice, Sem.run_bind, run_und hb.und, run_sizeOf' hb.sz, Result.andThen_ok, hsm, if_false, h0]
      simp [zeroValue, typeInfo, hi, hz, e1, newRow]
theorem Lx.buildSlice {t e : TypeId} {len size : Nat} {xs : List (Nat × Operand)} {ps : List (Nat × AV)} {es : List AV} (hg : wantB ops n F gd = some true) (hv : ogetp n F xs = some ps) (hb : BslT P t e len size ps es)
    (k : ∀ v, Lx P c n ops Q rest (putF d (.v v) F) (.row v e size 0 false es :: L)) : Lx P c n ops Q (⟨d, .buildSlice t len xs.toArray, ty, pos, aft, gd⟩ :: rest) F L :=
  Lx.op hg fun H w a hs hF => by
    obtain ⟨us, h1, hu, hlm⟩ := bsl_run (ty := ty) (w := w) (hF.reads (Op.buildSlice t len xs.toArray).operands) hv hb d pos aft gd
    exact ⟨_, w.alloc (.cells us.toArray e), _, _, H, _, h1, .inl rfl, Cells.le_refl _, hs.trans (St.newRow hs.hin e len size hb.hlen hb.pos hlm hb.cells hu), .v _, k _⟩
/-- a slice literal that nobody writes to -/
theorem Gr.bsl {t e : TypeId} {len size : Nat} {xs : List (Nat × Operand)} {ps : List (Nat × AV)} {es : List AV} (hv : ogetp n F xs = some ps) (hb : BslT P t e len size ps es) : Gr P c n (.buildSlice t len xs.toArray) ty F L (.sl size es) :=
  ⟨fun H w ρ hs hr d pos aft g => by
    obtain ⟨us, h1, hu, hlm⟩ := bsl_run (ty := ty) (w := w) hr hv hb d pos aft g
    rw [h1]
    have h2 := St.newRow hs.hin e len size hb.hlen hb.pos hlm hb.cells hu
    obtain ⟨H', _, h4⟩ := h2.freezeRow (i := 0) rfl
    exact ⟨H', h4.sub (List.nil_sublist _), (Sb.row 0 rfl).rel h4 (.v _)⟩⟩

/-! append -/
structure ApT (P : Program) (t e : TypeId) (size bytes : Nat) : Prop where
  out : ∃ z, P.underlying t = some (.slice e) ∧ (P.info? e).map (fun i => (i.zero, i.size, i.bytes)) = some (some z, size, bytes) ∧ z.cells.size = size ∧ 0 < size ∧ 0 < bytes
theorem ApT.parts {t e : TypeId} {size bytes : Nat} (h : ApT P t e size bytes) : ∃ i z, P.underlying t = some (.slice e) ∧ P.info? e = some i ∧ i.zero = some z ∧ i.size = size ∧ i.bytes = bytes ∧ z.cells.size = size ∧ 0 < size ∧ 0 < bytes := by
  obtain ⟨z, h1, h2, h3, h4, h5⟩ := h.out
  cases hi : P.info? e with
  | none => rw [hi] at h2; cases h2
  | some i =>
    rw [hi] at h2
    simp only [Option.map_some, Option.some.injEq, Prod.mk.injEq] at h2
    exact ⟨i, z, h1, rfl, h2.1, h2.2.1, h2.2.2, h3, h4, h5⟩
/-- the cells that were there are kept, whether the row grew in its place or elsewhere -/
theorem append_keeps {w : World} {base : Nat} {t ty e : TypeId} {i : TypeInfo} {z : Value} (ht : P.underlying t = some (.slice e)) (hi : P.info? e = some i) (hz : i.zero = some z)
    {v : Value} {k : Nat} {us : List Value} (hown : w.ownsRow base e i.size v k us) {a : Addr} {m cp : Nat} {news : List Value} (hl : news.length = m * i.size) (hnews : ∀ j u, news[j]? = some u → w.cell? (a.add j) = some u) (h1 : ∀ u ∈ news, u.oneCell' = true) (h63 : k + m ≤ maxLen) (hbytes : (k + m) * i.bytes ≤ 140737488355328)
    {v' : Value} {w' : World} (hrun : (Builtin.append_ #[t, t] ty #[v, .slice (some a) m cp]).run P w = .ok v' w') : ∀ g o, v.ownBlock = some g → o < k * i.size → w'.cell? ⟨g, o, none⟩ = w.cell? ⟨g, o, none⟩ := by
  intro g o hg ho
  rcases hown.2 with ⟨rfl, _⟩ | ⟨g', cap, cur, rfl, hb, hh, q1, q2, q3, q4⟩
  · simp [Value.ownBlock] at hg
  · simp only [Value.ownBlock, Option.some.injEq] at hg
    subst hg
    have hsmall : k + m ≤ 9223372036854775807 := by simp only [maxLen] at h63; omega
    by_cases hroom : k + m ≤ cap
    · have hfit : k * i.size + news.length ≤ cur.size := by rw [hl, q3, ← Nat.add_mul]; exact Nat.mul_le_mul_right _ hroom
      have hr := run_append_room (P := P) w t ty e i ht hi g' k cap cur hh a m cp news hl hnews h1 hroom hfit
      rw [hrun] at hr
      cases hr
      have h3 := setRow_heap w g' cur (cur.toList.take (k * i.size) ++ news ++ cur.toList.drop (k * i.size + news.length)).toArray e (0, 0) hh
      simp only [World.cell?, h3, hh, Option.isSome_none, Bool.false_eq_true, if_false, List.getElem?_toArray]
      rw [List.append_assoc, List.getElem?_append_left (by simp; omega), List.getElem?_take, if_pos ho]
      simp
    · have holds : ∀ j u, us[j]? = some u → w.cell? ((⟨g', 0, none⟩ : Addr).add j) = some u := hown.cells (g := g') rfl
      have hr := run_append_grow (P := P) w t ty e i z ht hi hz ⟨g', 0, none⟩ k cap us hown.1 holds a m cp news hl hnews (by omega) (by omega) (growslice_fits (by omega) hbytes)
      rw [hrun] at hr
      cases hr
      exact World.cell?_of_block (Below.heap_alloc w.drew _ g' (by simpa using blk_lt hh))
theorem append_draws {w : World} {base : Nat} {t ty e : TypeId} {i : TypeInfo} {z : Value} (ht : P.underlying t = some (.slice e)) (hi : P.info? e = some i) (hz : i.zero = some z)
    {v : Value} {k : Nat} {us : List Value} (hown : w.ownsRow base e i.size v k us) {a : Addr} {m cp : Nat} {news : List Value} (hl : news.length = m * i.size) (hnews : ∀ j u, news[j]? = some u → w.cell? (a.add j) = some u) (h1 : ∀ u ∈ news, u.oneCell' = true) (h63 : k + m ≤ maxLen) (hbytes : (k + m) * i.bytes ≤ 140737488355328) (hm : m ≠ 0)
    {v' : Value} {w' : World} (hrun : (Builtin.append_ #[t, t] ty #[v, .slice (some a) m cp]).run P w = .ok v' w') : w.drawn ≤ w'.drawn := by
  have hsmall : k + m ≤ 9223372036854775807 := by simp only [maxLen] at h63; omega
  rcases hown.2 with ⟨rfl, hk⟩ | ⟨g', cap, cur, rfl, hb, hh, q1, q2, q3, q4⟩
  · subst hk
    have hr := run_append_nil (P := P) w t ty e i z ht hi hz a m cp news hl hnews (by omega) (by omega) (by have hb := hbytes; simp only [Nat.zero_add] at hb; omega)
    rw [hrun] at hr
    cases hr
    show w.drawn ≤ w.drawn + 1
    omega
  · by_cases hroom : k + m ≤ cap
    · have hfit : k * i.size + news.length ≤ cur.size := by rw [hl, q3, ← Nat.add_mul]; exact Nat.mul_le_mul_right _ hroom
      have hr := run_append_room (P := P) w t ty e i ht hi g' k cap cur hh a m cp news hl hnews h1 hroom hfit
      rw [hrun] at hr
      cases hr
      exact Nat.le_refl _
    · have holds : ∀ j u, us[j]? = some u → w.cell? ((⟨g', 0, none⟩ : Addr).add j) = some u := hown.cells (g := g') rfl
      have hr := run_append_grow (P := P) w t ty e i z ht hi hz ⟨g', 0, none⟩ k cap us hown.1 holds a m cp news hl hnews (by omega) (by omega) (growslice_fits (by omega) hbytes)
      rw [hrun] at hr
      cases hr
      show w.drawn ≤ w.drawn + 1
      omega
theorem flat_len {size : Nat} : ∀ l : List AV, (∀ x ∈ l, x.cells.length = size) → (l.flatMap AV.cells).length = l.length * size
  | [], _ => by simp
  | a :: l, h => by
    rw [List.flatMap_cons, List.length_append, h a (by simp), flat_len l (fun x hx => h x (by simp [hx])), List.length_cons, Nat.succ_mul]
    omega
theorem RelE.flat : ∀ {k b o : Nat} {xs : List AV}, RelE H k b o xs → RelC H b o (xs.flatMap AV.cells) ∧ ∀ x ∈ xs, x.cells.length = k
  | _, _, _, _, .nil => ⟨by simpa using RelC.nil, by simp⟩
  | k, b, o, _, .cons (x := x) (xs := xs) hk h t => by
    obtain ⟨h1, h2⟩ := RelE.flat t
    refine ⟨?_, fun y hy => by rcases List.mem_cons.1 hy with rfl | hy; exact hk; exact h2 y hy⟩
    have happ : ∀ {cs : List AV} {o : Nat}, RelC H b o cs → ∀ {ds : List AV}, RelC H b (o + cs.length) ds → RelC H b o (cs ++ ds) := by
      intro cs
      induction cs with
      | nil => intro o _ ds h; simpa using h
      | cons c cs ih =>
        intro o h ds h2
        cases h with
        | cons hu h t => exact .cons hu h (ih t (by rw [List.length_cons] at h2; rw [show o + 1 + cs.length = o + (cs.length + 1) by omega]; exact h2))
    rw [List.flatMap_cons]
    exact happ h (by rw [hk]; exact h1)
theorem Lx.append {t e : TypeId} {size bytes m : Nat} {z : Bool} {s x : Operand} {v : Value} {a : AV} {xs ys : List AV} (hap : ApT P t e size bytes) (hg : wantB ops n F gd = some true) (hs : oget n F s = some (.v v)) (hx : oget n F x = some a)
    (i : Nat) (hi : L[i]? = some (.row v e size m z xs)) (hsb : Sb L a (.sl size ys)) (h1 : (ys.flatMap AV.cells).all AV.one = true) (hb : (xs.length + ys.length) * bytes ≤ 140737488355328)
    (k : ∀ v', Lx P c n ops Q rest (putF d (.v v') F) (L.set i (.row v' e size m false (xs ++ ys)))) :
    Lx P c n ops Q (⟨d, .call ⟨.builtin .append, #[s, x], #[t, t]⟩, ty, pos, aft, gd⟩ :: rest) F L :=
  Lx.op hg fun H w ac hst hF => by
    obtain ⟨i0, zz, q1, q2, q3, q4, q5, q6, q7, q8⟩ := hap.parts
    obtain ⟨us, hrow, hrel, hcl, hm, hno, hyes⟩ := hst.holds _ (List.mem_of_getElem? hi)
    have hle : xs.length + ys.length ≤ maxLen := by
      have : (xs.length + ys.length) * 1 ≤ (xs.length + ys.length) * bytes := Nat.mul_le_mul_left _ q8
      unfold maxLen
      omega
    have hxr := hsb.rel hst (hF.eval hx)
    obtain ⟨A, cap, ex, g1, g2, g3⟩ := hxr.inv_sl
    have hsv := (hF.eval hs).inv
    by_cases hne : ys = []
    · subst hne
      refine ⟨.value v, w, v, .v v, H, _, ?_, .inl rfl, Cells.le_refl _, ?_, .v _, k v⟩
      · rcases hrow.2 with ⟨rfl, _⟩ | ⟨g, cap', cur, rfl, _, _, c1, _⟩
        · simp only [execOp, resolve, invoke, builtin]
          simp [hsv, ex, Builtin.append_, run_und q1, sizeOf, typeInfo, q2, Builtin.lenOf, Builtin.firstCells]
          cases A <;> simp [loadCells, loadCellsFrom]
        · simp only [execOp, resolve, invoke, builtin]
          simp [hsv, ex, Builtin.append_, run_und q1, sizeOf, typeInfo, q2, Builtin.lenOf, Builtin.firstCells, c1]
          cases A <;> simp [loadCells, loadCellsFrom, storeCells]
      · rw [List.append_nil]
        refine hst.turn hi hst.hin ⟨us, hrow, hrel, hcl, hm, hno, fun h => by cases h⟩ ⟨rfl, rfl, rfl, Nat.le_refl _, fun _ _ _ => rfl⟩ (.inl rfl) (Nat.le_refl _)
    · obtain ⟨b, off, eA, hE⟩ := g3 hne
      obtain ⟨hC, hcl2⟩ := hE.flat
      obtain ⟨news, hn1, hn2⟩ := hC.list
      have hnl : news.length = ys.length * size := by rw [← hn1.len, flat_len ys hcl2]
      have hcells : ∀ j u, news[j]? = some u → w.cell? ((⟨b, off, none⟩ : Addr).add j) = some u := fun j u hu => by
        have : (⟨b, off, none⟩ : Addr).add j = ⟨b, off + j, none⟩ := by unfold Addr.add; split <;> simp_all
        rw [this]
        exact hst.hin _ _ _ (hn2 j u hu)
      have hone : ∀ u ∈ news, u.oneCell' = true := fun u hu => hn1.oneAll h1 u hu
      obtain ⟨v', w', hrun, r1, r2, _, r4⟩ := run_append_own_at (P := P) w c.w0.heap.size t ty e i0 zz size bytes q1 q2 q3 q4 q5 q6 q7 v xs.length us hrow ⟨b, off, none⟩ ys.length cap news hnl hcells hone hle hb hst.size
      have hkeep := append_keeps (P := P) (w := w) (ty := ty) q1 q2 q3 (by rw [q4]; exact hrow) (by rw [q4]; exact hnl) hcells hone hle (by rw [q5]; exact hb) hrun
      have hdraw := append_draws (P := P) (w := w) (ty := ty) q1 q2 q3 (by rw [q4]; exact hrow) (by rw [q4]; exact hnl) hcells hone hle (by rw [q5]; exact hb) (fun h => hne (List.eq_nil_of_length_eq_zero h)) hrun
      rw [q4] at hkeep
      have hH : ∀ g o u, v.ownBlock = some g → H g o = some u → o < xs.length * size := fun g o u hg hu => by
        rcases Nat.lt_or_ge o (xs.length * size) with h | h
        · exact h
        · rw [hno g hg o (Nat.le_trans (Nat.mul_le_mul_right _ hm) h)] at hu; cases hu
      have hin' : HIn H w' := fun g o u hu => by
        by_cases hgb : v.ownBlock = some g
        · rw [hkeep g o hgb (hH g o u hgb hu)]; exact hst.hin g o u hu
        · have hbk := r2.block g (hst.hin.lt hu) (fun e => hgb e.symm)
          rw [← hst.hin g o u hu]
          simp [World.cell?, hbk]
      refine ⟨.value v', w', v', .v v', H, _, ?_, .inl rfl, Cells.le_refl _, hst.turn hi (e' := .row v' e size m false (xs ++ ys)) hin' ?_ r2 ?_ hdraw, .v _, k v'⟩
      · simp [execOp, resolve, invoke, builtin, hsv, ex, eA, hrun]
      · refine ⟨us ++ news, by rw [List.length_append]; exact r1, by rw [List.flatMap_append]; exact hrel.append hn1, fun x hx => ?_, by rw [List.length_append]; omega, fun g hg o ho => ?_, fun h => by cases h⟩
        · rcases List.mem_append.1 hx with h | h
          · exact hcl x h
          · exact hcl2 x h
        · rcases r4 with r4 | r4
          · rw [r4] at hg; exact hno g hg o ho
          · rw [r4] at hg
            cases hg
            cases hu : H w.heap.size o with
            | none => rfl
            | some u => have := hst.hin.lt hu; omega
      · rcases r4 with r4 | r4
        · exact .inl r4
        · exact .inr (.inl r4)

/-! rows read and written in their place -/
theorem add_none (b o j : Nat) : (⟨b, o, none⟩ : Addr).add j = ⟨b, o + j, none⟩ := by unfold Addr.add; split <;> simp_all
def blkOf (v : Value) : Nat := v.ownBlock.getD 0
theorem row_at {i : Nat} {v : Value} {T : TypeId} {k m : Nat} {z : Bool} {xs : List AV} (hs : St c H w L) (hL : L[i]? = some (.row v T k m z xs)) (hne : xs ≠ []) :
    ∃ cap cur us, v = .slice (some ⟨blkOf v, 0, none⟩) xs.length cap ∧ w.heap[blkOf v]? = some (.cells cur T (0, 0)) ∧ xs.length ≤ cap ∧ cur.size = cap * k ∧ cur.toList.take (xs.length * k) = us ∧ RelL H (xs.flatMap AV.cells) us ∧ (∀ x ∈ xs, x.cells.length = k) ∧ us.length = xs.length * k := by
  obtain ⟨us, hrow, hrel, hcl, hm, hno, hyes⟩ := hs.holds _ (List.mem_of_getElem? hL)
  rcases hrow.2 with ⟨_, hn⟩ | ⟨g, cap, cur, hv, _, hh, c1, _, c3, c4⟩
  · exact absurd (List.eq_nil_of_length_eq_zero hn) hne
  · have hb : blkOf v = g := by rw [hv]; rfl
    exact ⟨cap, cur, us, by rw [hb]; exact hv, by rw [hb]; exact hh, c1, c3, c4, hrel, hcl, hrow.1⟩
theorem flat_get {size : Nat} : ∀ (l : List AV) (i : Nat) (x : AV) (j : Nat) (r : AV), (∀ x ∈ l, x.cells.length = size) → l[i]? = some x → x.cells[j]? = some r → (l.flatMap AV.cells)[i * size + j]? = some r
  | [], i, p, j, u, _, h, _ => by simp at h
  | a :: l, 0, p, j, u, hk, h, hu => by
    simp only [List.getElem?_cons_zero, Option.some.injEq] at h
    subst h
    have hj : j < a.cells.length := (List.getElem?_eq_some_iff.1 hu).1
    rw [List.flatMap_cons, Nat.zero_mul, Nat.zero_add, List.getElem?_append_left hj]
    exact hu
  | a :: l, i + 1, p, j, u, hk, h, hu => by
    simp only [List.getElem?_cons_succ] at h
    have := flat_get l i p j u (fun x hx => hk x (by simp [hx])) h hu
    have ha := hk a (by simp)
    rw [List.flatMap_cons, List.getElem?_append_right (by rw [ha, Nat.succ_mul]; omega), ha]
    rw [show (i + 1) * size + j - size = i * size + j by rw [Nat.succ_mul]; omega]
    exact this
theorem Gr.lenR {t e T : TypeId} {k m : Nat} {z : Bool} {x : Operand} {v : Value} {xs : List AV} (ht : SlcT P t e k) (i : Nat) (hx : oget n F x = some (.v v)) (hL : L[i]? = some (.row v T k m z xs)) : Gr P c n (.call ⟨.builtin .len, #[x], #[t]⟩) ty F L (I xs.length) :=
  .pure fun H w ρ hs hr d pos aft _ => by
    obtain ⟨us, hrow, _⟩ := hs.holds _ (List.mem_of_getElem? hL)
    refine ⟨.int .i64 xs.length, ?_, .v _⟩
    have e := hr.v (by simp [Op.operands, Call.operands]) hx
    rcases hrow.2 with ⟨hv, hn⟩ | ⟨g, cap, cur, hv, _⟩
    · rw [hn]
      simp [execOp, resolve, invoke, builtin, e, hv, Builtin.len_, run_und ht.und, goInt]
    · simp [execOp, resolve, invoke, builtin, e, hv, Builtin.len_, run_und ht.und, goInt]
theorem Gr.idxR {q : IntKind} {a : Int} {t e T : TypeId} {k m : Nat} {z : Bool} {x y : Operand} {v : Value} {xs : List AV} (ht : SlcT P t e k) (i : Nat) (hx : oget n F x = some (.v v)) (hL : L[i]? = some (.row v T k m z xs)) (hy : oget n F y = some (.v (.int q a))) (h0 : 0 ≤ a) (h1 : a < xs.length) :
    Gr P c n (.indexAddr t x y) ty F L (.v (.pointer (some ⟨blkOf v, a.toNat * k, none⟩))) :=
  .pure fun H w ρ hs hr d pos aft _ => by
    obtain ⟨cap, cur, us, hv, _⟩ := row_at hs hL (by rintro rfl; simp at h1; omega)
    refine ⟨_, ?_, .v _⟩
    have e := hr.v (x := x) (by simp [Op.operands]) hx
    rw [hv] at e
    have : (⟨blkOf v, 0, none⟩ : Addr).add (a.toNat * k) = ⟨blkOf v, a.toNat * k, none⟩ := by rw [add_none, Nat.zero_add]
    simp only [execOp, e, hr.v (x := y) (by simp [Op.operands]) hy, Instr.indexAt, asIntOf]
    simp [run_und ht.und, h0, h1, run_sizeOf' ht.size, this]
theorem row_cell {i : Nat} {v : Value} {T : TypeId} {k m j a : Nat} {z : Bool} {xs : List AV} {x r : AV} (hs : St c H w L) (hL : L[i]? = some (.row v T k m z xs)) (hx : xs[a]? = some x) (hr : x.cells[j]? = some r) : ∃ u, w.cell? ⟨blkOf v, a * k + j, none⟩ = some u ∧ Rel H r u := by
  obtain ⟨cap, cur, us, hv, hh, h1, h2, h3, hrel, hcl, hul⟩ := row_at hs hL (by rintro rfl; simp at hx)
  obtain ⟨u, hu, hru⟩ := hrel.get (flat_get xs a x j r hcl hx hr)
  refine ⟨u, ?_, hru⟩
  rw [← h3, List.getElem?_take] at hu
  split at hu
  · simpa [World.cell?, hh] using hu
  · cases hu
theorem Gr.ldR {t T : TypeId} {x : Operand} {v : Value} {a j k m : Nat} {z : Bool} {xs : List AV} {p r : AV} (ht : OneT P t) (i : Nat) (hx : oget n F x = some (.v (.pointer (some ⟨blkOf v, a * k + j, none⟩)))) (hL : L[i]? = some (.row v T k m z xs)) (hp : xs[a]? = some p) (hr : p.cells[j]? = some r) :
    Gr P c n (.load t x) ty F L r :=
  .pure fun H w ρ hs hr' d pos aft _ => by
    obtain ⟨u, h1, h2⟩ := row_cell hs hL hp hr
    exact ⟨u, by simp [execOp, hr'.v (by simp [Op.operands]) hx, run_load1 ht h1], h2⟩
theorem Gr.ldR0 {t T : TypeId} {x : Operand} {v : Value} {a k m : Nat} {z : Bool} {xs : List AV} {p r : AV} (ht : OneT P t) (i : Nat) (hx : oget n F x = some (.v (.pointer (some ⟨blkOf v, a * k, none⟩)))) (hL : L[i]? = some (.row v T k m z xs)) (hp : xs[a]? = some p) (hr : p.cells[0]? = some r) :
    Gr P c n (.load t x) ty F L r := Gr.ldR (j := 0) ht i hx hL hp hr
theorem Gr.ldRA {t T : TypeId} {x : Operand} {v : Value} {a k m : Nat} {z : Bool} {xs : List AV} {cs : List AV} (ht : AggT P t k) (i : Nat) (hx : oget n F x = some (.v (.pointer (some ⟨blkOf v, a * k, none⟩)))) (hL : L[i]? = some (.row v T k m z xs)) (hp : xs[a]? = some (.agg cs)) :
    Gr P c n (.load t x) ty F L (.agg cs) :=
  .pure fun H w ρ hs hr' d pos aft _ => by
    obtain ⟨cap, cur, us, hv, hh, h1, h2, h3, hrel, hcl, hul⟩ := row_at hs hL (by rintro rfl; simp at hp)
    have hk : cs.length = k := hcl _ (List.mem_of_getElem? hp)
    have hget : ∀ j r, cs[j]? = some r → ∃ u, us[a * k + j]? = some u ∧ Rel H r u := fun j r hr => hrel.get (flat_get xs a (.agg cs) j r hcl hp hr)
    have hmk : ∀ (ds : List AV) (o : Nat), (∀ j r, ds[j]? = some r → ∃ u, us[o + j]? = some u ∧ Rel H r u) → ∃ vs, RelL H ds vs ∧ ∀ j u, vs[j]? = some u → us[o + j]? = some u := by
      intro ds
      induction ds with
      | nil => intro o _; exact ⟨[], .nil, by simp⟩
      | cons r ds ih =>
        intro o h
        obtain ⟨u, e1, e2⟩ := h 0 r rfl
        obtain ⟨vs, e3, e4⟩ := ih (o + 1) (fun j r hr => by rw [show o + 1 + j = o + (j + 1) by omega]; exact h (j + 1) r (by simpa using hr))
        refine ⟨u :: vs, .cons e2 e3, fun j u' hu => ?_⟩
        cases j with
        | zero => simp only [List.getElem?_cons_zero, Option.some.injEq] at hu; subst hu; exact e1
        | succ j => rw [show o + (j + 1) = o + 1 + j by omega]; exact e4 j u' (by simpa using hu)
    obtain ⟨vs, e3, e4⟩ := hmk cs (a * k) hget
    refine ⟨.agg vs.toArray, ?_, .agg e3⟩
    simp [execOp, hr'.v (by simp [Op.operands]) hx, run_loadA ht (by rw [← e3.len]; exact hk) (b := blkOf v) (o := a * k) (w := w) (fun j u hu => by
      have h5 := e4 j u hu
      rw [← h3, List.getElem?_take] at h5
      split at h5
      · simpa [World.cell?, hh] using h5
      · cases h5)]
/-- x with its cell j turned -/
def AV.setCell : AV → Nat → AV → AV
  | .agg cs, j, r => .agg (cs.set j r)
  | _, _, r => r
theorem flat_set {size : Nat} : ∀ (l : List AV) (i : Nat) (x : AV) (j : Nat) (r : AV), (∀ x ∈ l, x.cells.length = size) → l[i]? = some x → j < size → x.cells.length = (x.setCell j r).cells.length → (x.setCell j r).cells = x.cells.set j r → (l.set i (x.setCell j r)).flatMap AV.cells = (l.flatMap AV.cells).set (i * size + j) r
  | [], i, p, j, u, _, h, _, _, _ => by simp at h
  | a :: l, 0, p, j, u, hk, h, hj, hl, hc => by
    simp only [List.getElem?_cons_zero, Option.some.injEq] at h
    subst h
    have ha := hk a (by simp)
    rw [List.set_cons_zero, List.flatMap_cons, List.flatMap_cons, hc, Nat.zero_mul, Nat.zero_add, List.set_append_left _ _ (by omega)]
  | a :: l, i + 1, p, j, u, hk, h, hj, hl, hc => by
    simp only [List.getElem?_cons_succ] at h
    have ih := flat_set l i p j u (fun x hx => hk x (by simp [hx])) h hj hl hc
    have ha := hk a (by simp)
    rw [List.set_cons_succ, List.flatMap_cons, List.flatMap_cons, ih, List.set_append_right _ _ (by rw [ha, Nat.succ_mul]; omega), ha, show (i + 1) * size + j - size = i * size + j by rw [Nat.succ_mul]; omega]
theorem Lx.stR {t T : TypeId} {x y : Operand} {v : Value} {a j k m : Nat} {z : Bool} {xs : List AV} {p r : AV} (ht : OneT P t) (hg : wantB ops n F gd = some true) (hx : oget n F x = some (.v (.pointer (some ⟨blkOf v, a * k + j, none⟩)))) (hy : oget n F y = some r) (i : Nat)
    (hL : L[i]? = some (.row v T k m z xs)) (hm : m ≤ a) (hp : xs[a]? = some p) (hj : Nat.blt j p.cells.length = true) (hu : r.one = true) (kk : Lx P c n ops Q rest (putF d (.v undef) F) (L.set i (.row v T k m false (xs.set a (p.setCell j r))))) :
    Lx P c n ops Q (⟨d, .store t x y, ty, pos, aft, gd⟩ :: rest) F L :=
  Lx.op hg fun H w ac hs hF => by
    obtain ⟨us', hrow, _, _, hm', hno, _⟩ := hs.holds _ (List.mem_of_getElem? hL)
    have hj' : j < p.cells.length := by simpa [Nat.blt_eq] using hj
    obtain ⟨u0, hc0, _⟩ := row_cell hs hL hp (List.getElem?_eq_getElem hj')
    obtain ⟨cap, cur, us, hv, hh, h1, h2, h3, hrel, hcl, hul⟩ := row_at hs hL (by rintro rfl; simp at hp)
    have hk : p.cells.length = k := hcl _ (List.mem_of_getElem? hp)
    have ha : a < xs.length := (List.getElem?_eq_some_iff.1 hp).1
    have hpos : a * k + j < us.length := by
      rw [hul]
      have : (a + 1) * k ≤ xs.length * k := Nat.mul_le_mul_right _ (by omega)
      rw [Nat.succ_mul] at this
      omega
    have hyv := hF.eval hy
    obtain ⟨o1, o2, o3⟩ := hyv.one hu
    have hfro : w.frozen? ⟨blkOf v, a * k + j, none⟩ = false := by simp [World.frozen?, hh]
    have hsc : (p.setCell j r).cells = p.cells.set j r := by
      cases p with
      | agg cs => rfl
      | _ =>
        simp only [AV.cells, List.length_singleton] at hj'
        have : j = 0 := by omega
        subst this
        simp only [AV.setCell, AV.cells, List.set_cons_zero]
        exact o3
    have hscl : p.cells.length = (p.setCell j r).cells.length := by rw [hsc]; simp
    have hsz : cur.size = cap * k := h2
    refine ⟨.skip, w.setCell ⟨blkOf v, a * k + j, none⟩ (ac.eval y), undef, _, H, _, ?_, .inr ⟨rfl, rfl⟩, Cells.le_refl _, ?_, .v _, kk⟩
    · simp [execOp, (hF.eval hx).inv, Instr.storeAt, Instr.sureAddr, storeVar, run_sizeOf' ht.size, o2, storeCells, Addr.add, run_store P w _ (ac.eval y) _ o1, hc0, hfro]
    · have hb : v.ownBlock = some (blkOf v) := by rw [hv]; rfl
      rw [setCell_eq_setRow w (blkOf v) (a * k + j) _ T (0, 0) (ac.eval y) hh]
      have hother : ∀ q, q ≠ blkOf v → (w.setRow (blkOf v) (cur.setIfInBounds (a * k + j) (ac.eval y))).heap[q]? = w.heap[q]? := fun q hq => setRow_other w (blkOf v) q _ hq
      have hsame := setRow_heap w (blkOf v) cur (cur.setIfInBounds (a * k + j) (ac.eval y)) T (0, 0) hh
      refine hs.turn hL ?_ ⟨us.set (a * k + j) (ac.eval y), ⟨by simp [hul], .inr ⟨blkOf v, cap, cur.setIfInBounds (a * k + j) (ac.eval y), ?_, ?_, hsame, by simpa using h1, ?_, by simpa using h2, ?_⟩⟩, ?_, ?_, by simpa using hm', hno, fun h => by cases h⟩ ⟨rfl, rfl, rfl, by simp [World.setRow], fun q _ hq => hother q (fun e => hq (by rw [e]; exact hb.symm))⟩ (.inl rfl) (Nat.le_refl _)
      · intro b o u hu
        by_cases hbb : b = blkOf v
        · subst hbb
          have ho : o < m * k := by
            rcases Nat.lt_or_ge o (m * k) with h | h
            · exact h
            · rw [hno _ hb o h] at hu; cases hu
          have hma : m * k ≤ a * k := Nat.mul_le_mul_right _ hm
          have := hs.hin _ o u hu
          simp only [World.cell?, hh, hsame, Option.isSome_none, Bool.false_eq_true, if_false] at this ⊢
          rw [Array.getElem?_setIfInBounds_ne (by omega)]
          exact this
        · have := hs.hin b o u hu
          simp only [World.cell?, hother b hbb] at this ⊢
          exact this
      · rw [List.length_set]; exact hv
      · exact (Ent.own_ge (hs.holds _ (List.mem_of_getElem? hL)) hb).1
      · rcases hrow.2 with ⟨e, _⟩ | ⟨g', cap', cur', e, _, _, _, c2, _⟩
        · rw [hv] at e; cases e
        · rw [hv] at e; injection e with _ _ e; rw [e]; exact c2
      · rw [List.length_set, ← h3, Array.toList_setIfInBounds, List.take_set]
      · rw [flat_set xs a p j r hcl hp (by omega) hscl hsc]
        exact hrel.set hyv _
      · intro q hq
        rcases List.mem_or_eq_of_mem_set hq with h | h
        · exact hcl q h
        · rw [h, ← hscl]; exact hk

/-! comparisons of structs whose cells are known -/
def exacts : List AV → Option (List Value)
  | [] => some []
  | .v x :: cs => match exacts cs with
    | some us => some (x :: us)
    | none => none
  | _ :: _ => none
theorem RelL.exact : ∀ {cs : List AV} {vs us : List Value}, RelL H cs vs → exacts cs = some us → vs = us
  | _, _, _, .nil, h => by simp only [exacts, Option.some.injEq] at h; exact h
  | _, _, us, .cons (c := a) h t, hh => by
    cases a with
    | v x =>
      simp only [exacts] at hh
      split at hh
      · rename_i us' he
        simp only [Option.some.injEq] at hh
        subst hh
        rw [h.inv, RelL.exact t he]
      · cases hh
    | _ => simp [exacts] at hh
structure EqT (P : Program) (t : TypeId) (x y : Value) (b : Bool) : Prop where
  out : ∀ w, (binOp .eql t x y).run P w = .ok (.bool b) w
  guard : ∀ op' o1 o2 w, (eqGuard op' t o1 o2 x y).run P w = .ok () w
  out' : ∀ w, (binOp .neq t x y).run P w = .ok (.bool (!b)) w
theorem Gr.eqlS {t t' : TypeId} {x y : Operand} {cs ds : List AV} {us vs : List Value} {b : Bool} (hx : oget n F x = some (.agg cs)) (hy : oget n F y = some (.agg ds)) (hc : exacts cs = some us) (hd : exacts ds = some vs) (h : EqT P t (.agg us.toArray) (.agg vs.toArray) b) : Gr P c n (.binOp .eql t x y t') ty F L (B b) :=
  .pure fun H w ρ _ hr d pos aft g => by
    obtain ⟨u1, e1, r1⟩ := (hr x (by simp [Op.operands]) _ hx).inv_agg
    obtain ⟨u2, e2, r2⟩ := (hr y (by simp [Op.operands]) _ hy).inv_agg
    rw [r1.exact hc] at e1
    rw [r2.exact hd] at e2
    exact ⟨.bool b, by simp [execOp, e1, e2, h.guard _ _ _ w, h.out w], .v _⟩
theorem Gr.neqS {t t' : TypeId} {x y : Operand} {cs ds : List AV} {us vs : List Value} {b : Bool} (hx : oget n F x = some (.agg cs)) (hy : oget n F y = some (.agg ds)) (hc : exacts cs = some us) (hd : exacts ds = some vs) (h : EqT P t (.agg us.toArray) (.agg vs.toArray) b) : Gr P c n (.binOp .neq t x y t') ty F L (B (!b)) :=
  .pure fun H w ρ _ hr d pos aft g => by
    obtain ⟨u1, e1, r1⟩ := (hr x (by simp [Op.operands]) _ hx).inv_agg
    obtain ⟨u2, e2, r2⟩ := (hr y (by simp [Op.operands]) _ hy).inv_agg
    rw [r1.exact hc] at e1
    rw [r2.exact hd] at e2
    exact ⟨.bool (!b), by simp [execOp, e1, e2, h.guard _ _ _ w, h.out' w], .v _⟩
end
end Go.E2
namespace Go.E2
open Go.RowKit
section
variable {P : Program} {c : Ctx} {n : Cfg} {Q : Exit → Act → World → Prop} {F G : Fr} {L : List Ent} {ops : Array Oper}
/-- the order of the text, operation q left out -/
def lexIs (ops : Array Oper) (p : Nat) : List Nat → Array Bool → Bool
  | [], listed => (Region.ready .any ops listed).all fun i => Nat.ble p i
  | k :: ks, listed => (Region.ready .any ops listed).contains k && Nat.blt k p && Region.free .any ops listed k && lexIs ops p ks (listed.setIfInBounds k true)
theorem wpAnyA_is {p : Nat} {K : Fr → Prop} (hK : ∀ F G, FEq F G → K F → K G) : ∀ (l : List Oper) (is : List Nat) (listed : Array Bool) (F F' : Fr), l.length = is.length → (∀ (j i : Nat), is[j]? = some i → l[j]? = ops[i]?) →
    lexIs ops p is listed = true → RunA P c n L ops l F F' → K F' → wpAnyA P c n L ops p K is.length listed F
  | [], [], _, _, _, _, _, hB, .nil, hk => ⟨fun i hi => by
      simp only [lexIs, List.all_eq_true] at hB
      exact Nat.le_of_ble_eq_true (hB i hi), hk⟩
  | [], _ :: _, _, _, _, hlen, _, _, _, _ => by simp at hlen
  | _ :: _, [], _, _, _, hlen, _, _, _, _ => by simp at hlen
  | o :: l, k :: is, listed, F, F', hlen, hl, hB, .cons h t, hk => by
    have h0 : ops[k]? = some o := by simpa using (hl 0 k rfl).symm
    simp only [lexIs, Bool.and_eq_true] at hB
    obtain ⟨⟨⟨hr, hp⟩, hf⟩, hB'⟩ := hB
    exact wpAnyA_first hK h0 (by simpa [Nat.blt_eq] using hp) is.length listed F (fun j oj => Region.free_spec h0 hf j oj) (by simpa using hr) h
      (wpAnyA_is hK l is _ _ F' (by simpa using hlen) (fun j i hj => by have := hl (j + 1) i (by simpa using hj); simpa using this) hB' t hk)
/-- operation q makes a new block, waits for none, and none below p looks at it -/
def allocB (ops : Array Oper) (p q : Nat) (dq : Nat) (t : TypeId) : Bool :=
  Nat.blt q p && (match ops[q]? with
    | some o => (match o.op with | .alloc t' => Nat.beq t' t | _ => false) && (match o.dst with | some d => Nat.beq d dq | none => false) && o.guard.isNone && o.after.all (fun e => !Region.binds .any e)
    | none => false) &&
  (List.range p).all fun i => Nat.beq i q || (match ops[i]? with
    | some o => !(o.looksAt ops).contains dq && (match o.dst with | some d => !Nat.beq d dq | none => true) && o.after.all (fun e => !Region.binds .any e || !Nat.beq e.on q)
    | none => true)
theorem ready_set {listed : Array Bool} {q i p : Nat} {dq : Nat} {t : TypeId} (hA : allocB ops p q dq t = true) (hip : i < p) (hiq : i ≠ q) : i ∈ Region.ready .any ops listed ↔ i ∈ Region.ready .any ops (listed.setIfInBounds q true) := by
  constructor
  · intro h; exact ready_mono h hiq
  · intro h
    rw [mem_ready] at h ⊢
    obtain ⟨h0, o, ho, hall⟩ := h
    rw [getD_set_ne true (Ne.symm hiq)] at h0
    refine ⟨h0, o, ho, fun e he hb => ?_⟩
    have := hall e he hb
    simp only [allocB, Bool.and_eq_true, List.all_eq_true, List.mem_range] at hA
    have h2 := hA.2 i hip
    simp only [Bool.or_eq_true, ho, Bool.and_eq_true] at h2
    rcases h2 with h2 | h2
    · exact absurd (Nat.eq_of_beq_eq_true h2) hiq
    · have h3 := Array.all_eq_true_iff_forall_mem.1 h2.2 e he
      have hne : e.on ≠ q := fun hh => by rw [hb, hh] at h3; simp at h3
      rwa [getD_set_ne false (Ne.symm hne)] at this
structure AlcSt (c : Ctx) (n : Cfg) (L : List Ent) (F : Fr) (dq : Nat) (t : TypeId) (cs : List AV) (done : Bool) (H : Cells) (w : World) (a : Act) : Prop where
  no : done = false → St c H w L ∧ Fit H n F a
  yes : done = true → ∃ g, St c H w (.blk g t false cs :: L) ∧ Fit H n ((dq, .v (.pointer (some ⟨g, 0, none⟩))) :: F) a
theorem wpAny_of_B {p m q dq : Nat} {t : TypeId} {cs : List AV} {Q' : Exit → Act → World → Prop} {K : Fr → Prop} (hz : ZeroA P t cs) (hA : allocB ops p q dq t = true) (hm : ops.size = m) (hpm : p ≤ m) (hT : ∀ listed, Closed ops listed → (∃ i, i < p ∧ listed.getD i true = false) → ∀ j ∈ Region.ready .any ops listed, j < p)
    (hK : ∀ F g H w a, K F → St c H w (.blk g t false cs :: L) → Fit H n ((dq, .v (.pointer (some ⟨g, 0, none⟩))) :: F) a → wpAny P .any ops Q' (m - p) (lst p m) a w) :
    ∀ (fuel k : Nat) (done : Bool) (listed : Array Bool) (F : Fr) (H : Cells) (w : World) (a : Act), listed.size = m → Closed ops listed → unl p listed = fuel → listed.getD q false = done → (k + (if done = true then 0 else 1)) = fuel → (∀ i, p ≤ i → listed.getD i false = false) → wpAnyA P c n L ops p K k (listed.setIfInBounds q true) F → AlcSt c n L F dq t cs done H w a → wpAny P .any ops Q' (fuel + (m - p)) listed a w := by
  have hA' := hA
  simp only [allocB, Bool.and_eq_true] at hA'
  obtain ⟨⟨hqp, hq2⟩, hq3⟩ := hA'
  have hqp : q < p := by simpa [Nat.blt_eq] using hqp
  cases hoq : ops[q]? with
  | none => rw [hoq] at hq2; cases hq2
  | some oq =>
  rw [hoq] at hq2
  simp only [Bool.and_eq_true] at hq2
  obtain ⟨⟨⟨e1, e2⟩, e3⟩, e4⟩ := hq2
  have hop : oq.op = .alloc t := by
    cases ho : oq.op <;> rw [ho] at e1 <;> first | (simp only at e1; rw [Nat.eq_of_beq_eq_true e1]) | cases e1
  have hdst : oq.dst = some dq := by
    cases hd : oq.dst with
    | none => rw [hd] at e2; cases e2
    | some d => rw [hd] at e2; simp only at e2; rw [Nat.eq_of_beq_eq_true e2]
  have hgd : oq.guard = none := by simpa using e3
  intro fuel
  induction fuel with
  | zero =>
    intro k done listed F H w a hs hc hu hdn hk h1 h hst
    have hd1 : done = true := by cases done with | true => rfl | false => simp at hk
    subst hd1
    simp only [if_true, Nat.add_zero] at hk
    subst hk
    obtain ⟨g, s1, s2⟩ := hst.yes rfl
    rw [Nat.zero_add, lst_of hpm hs (unl_zero hu) h1]
    exact hK F g H w a h.2 s1 s2
  | succ fuel ih =>
    intro k done listed F H w a hs hc hu hdn hk h1 h hst
    rw [show fuel + 1 + (m - p) = (fuel + (m - p)) + 1 by omega]
    have hqr : done = false → q ∈ Region.ready .any ops listed := fun hd => by
      rw [mem_ready]
      have hql : q < listed.size := by rw [hs, ← hm]; exact (Array.getElem?_eq_some_iff.1 hoq).1
      rw [hd] at hdn
      refine ⟨by simpa [hql] using hdn, oq, hoq, fun e he hb => ?_⟩
      have := Array.all_eq_true_iff_forall_mem.1 e4 e he
      rw [hb] at this
      cases this
    refine ⟨fun h0 => ?_, fun i hi => ?_⟩
    · exfalso
      cases done with
      | false => have := hqr rfl; rw [h0] at this; cases this
      | true =>
        simp only [if_true, Nat.add_zero] at hk
        subst hk
        obtain ⟨⟨i0, hi0, hip⟩, _⟩ := h
        by_cases hiq : i0 = q
        · subst hiq
          have := (mem_ready.1 hi0).1
          have hql : i0 < listed.size := by rw [hs, ← hm]; exact (Array.getElem?_eq_some_iff.1 hoq).1
          simp [hql] at this
        · have := (ready_set (listed := listed) hA hip hiq).2 hi0
          rw [h0] at this; cases this
    · have hip := hT listed hc (unl_pos (by omega)) i hi
      obtain ⟨hun, o, ho, _⟩ := mem_ready.1 hi
      have hil : i < listed.size := by rw [hs, ← hm]; exact (Array.getElem?_eq_some_iff.1 ho).1
      have hul : unl p (listed.setIfInBounds i true) = fuel := by have := unl_set hil hun p; rw [if_pos hip] at this; omega
      unfold wpOp
      simp only [ho]
      by_cases hiq : i = q
      · subst hiq
        rw [hoq] at ho
        cases ho
        have hd0 : done = false := by
          cases done with
          | false => rfl
          | true => simp [hil] at hun hdn; rw [hun] at hdn; cases hdn
        subst hd0
        obtain ⟨s1, s2⟩ := hst.no rfl
        obtain ⟨z, z1, z2⟩ := hz.out
        rw [if_pos (by unfold Region.wanted; rw [hgd])]
        refine .inl ?_
        have hrun : (execOp a.eval oq).run P w = .ok (.value (.pointer (some ⟨w.heap.size, 0, none⟩))) (w.alloc (.cells z.cells.toList.toArray t)) := by
          cases hin : P.info? t with
          | none => rw [hin] at z1; cases z1
          | some inf =>
            rw [hin] at z1
            simp only [Option.bind_some] at z1
            simp [execOp, hop, Instr.alloc, zeroValue, typeInfo, hin, z1, newVar, newRow]
        unfold Oper.wp
        rw [hrun]
        simp only [Oper.upon, hdst]
        simp only [Bool.false_eq_true, if_false] at hk
        refine ih k true _ F H _ _ (by simpa using hs) (hc.set hi) hul (by simp [hil]) (by simp; omega) (fun j hj => by rw [getD_set_ne false (by omega)]; exact h1 j hj) (by simpa using h) ⟨fun h => (by cases h), fun _ => ⟨w.heap.size, ?_, s2.put (.v _) (some dq)⟩⟩
        have hrl : RelL H cs z.cells.toList := by rw [← z2]; exact relL_v H _
        have := s1.trans (St.new s1.hin t hrl)
        simpa using this
      · have hi' := (ready_set (listed := listed) hA hip hiq).1 hi
        cases k with
        | zero =>
          have := h.1 i hi'
          omega
        | succ k =>
          obtain ⟨r, hy, hn⟩ := h.2 i hi' hip o ho
          have h4 := hq3
          simp only [List.all_eq_true, List.mem_range] at h4
          have h5 := h4 i hip
          simp only [Bool.or_eq_true, ho, Bool.and_eq_true] at h5
          rcases h5 with h5 | h5
          · exact absurd (Nat.eq_of_beq_eq_true h5) hiq
          obtain ⟨⟨h5a, h5b⟩, h5c⟩ := h5
          have hlook : dq ∉ o.looksAt ops := by simpa using h5a
          have hdne : ∀ x, o.dst = some x → x ≠ dq := fun x hx e => by rw [hx] at h5b; simp only at h5b; rw [e] at h5b; simp at h5b
          have hcomm : (listed.setIfInBounds q true).setIfInBounds i true = (listed.setIfInBounds i true).setIfInBounds q true := Array.setIfInBounds_comm _ _ (Ne.symm hiq)
          have hdn' : (listed.setIfInBounds i true).getD q false = done := by rw [getD_set_ne false hiq]; exact hdn
          have hkk : k + (if done = true then 0 else 1) = fuel := by omega
          rw [hcomm] at hn
          have hnx : ∀ H' w' a', AlcSt c n L (putF o.dst r F) dq t cs done H' w' a' → wpAny P .any ops Q' (fuel + (m - p)) (listed.setIfInBounds i true) a' w' := fun H' w' a' hst' =>
            ih k done _ _ H' w' a' (by simpa using hs) (hc.set hi) hul hdn' hkk (fun j hj => by rw [getD_set_ne false (by omega)]; exact h1 j hj) hn hst'
          cases done with
          | false =>
            obtain ⟨s1, s2⟩ := hst.no rfl
            rcases hy.cases with ⟨_, hw, hg, hrr⟩ | ⟨hw, hrr⟩
            · rw [if_pos (wanted_fit s2.size s2.rel hw)]
              exact .inl (oper_wp_grows s1 (hg.out H w a.eval s1 (s2.reads _) o.dst o.pos o.after o.guard) fun H' w' v hl hs' hr => hnx _ _ _ ⟨fun _ => ⟨hs', (s2.mono hl).put (hrr _ _ hr) o.dst⟩, fun h => by cases h⟩)
            · rw [if_neg (by rw [wanted_fit s2.size s2.rel hw]; simp)]
              exact hnx _ _ _ ⟨fun _ => ⟨s1, s2.put (hrr _) o.dst⟩, fun h => by cases h⟩
          | true =>
            obtain ⟨g, s1, s2⟩ := hst.yes rfl
            have hy' := hy.put (d := some dq) (q := .v (.pointer (some ⟨g, 0, none⟩))) (fun x hx => by cases hx; exact hlook)
            have hfe : ∀ v : AV, FEq ((dq, .v (.pointer (some ⟨g, 0, none⟩))) :: putF o.dst v F) (putF o.dst v ((dq, .v (.pointer (some ⟨g, 0, none⟩))) :: F)) := fun v => put_comm (d := some dq) (e := o.dst) (fun x hx e => by cases hx; exact hdne _ e rfl) _ v F
            rcases hy'.cases with ⟨_, hw, hg, hrr⟩ | ⟨hw, hrr⟩
            · rw [if_pos (wanted_fit s2.size s2.rel hw)]
              exact .inl (oper_wp_grows s1 (hg.out H w a.eval (s1.sub (List.sublist_cons_self _ _)) (s2.reads _) o.dst o.pos o.after o.guard) fun H' w' v hl hs' hr => hnx _ _ _ ⟨fun h => (by cases h), fun _ => ⟨g, hs', ((s2.mono hl).put (hrr _ _ hr) o.dst).weak fun s x hx => by rw [← hfe r s]; exact hx⟩⟩)
            · rw [if_neg (by rw [wanted_fit s2.size s2.rel hw]; simp)]
              exact hnx _ _ _ ⟨fun h => (by cases h), fun _ => ⟨g, s1, (s2.put (hrr _) o.dst).weak fun s x hx => by rw [← hfe _ s]; exact hx⟩⟩
/-- what stands behind: one new block -/
def ThenB (P : Program) (c : Ctx) (n : Cfg) (ops : Array Oper) (Q : Exit → Act → World → Prop) (tail : List Oper) (dq : Nat) (t : TypeId) (cs : List AV) (L : List Ent) (F : Fr) : Prop := ∀ g, Lx P c n ops Q tail ((dq, .v (.pointer (some ⟨g, 0, none⟩))) :: F) (.blk g t false cs :: L)
theorem ThenB.congr {tail : List Oper} {dq : Nat} {t : TypeId} {cs : List AV} (F G : Fr) (h : FEq F G) (k : ThenB P c n ops Q tail dq t cs L F) : ThenB P c n ops Q tail dq t cs L G := fun g => ⟨fun H w a hs hF => (k g).out H w a hs (hF.weak fun s x hx => by have := h.put (some dq) (.v (.pointer (some ⟨g, 0, none⟩))) s; simp only [putF] at this; rw [← this]; exact hx)⟩
theorem fm_map {l : List Oper} {m : Nat} (hl : l.length = m) : ∀ is : List Nat, (∀ x ∈ is, Nat.blt x m = true) → is.filterMap (l[·]?) = is.map fun i => l.getD i default
  | [], _ => rfl
  | i :: is, h => by
    have hi : i < l.length := by rw [hl]; have := h i (by simp); simpa [Nat.blt_eq] using this
    rw [List.filterMap_cons, List.map_cons, fm_map hl is (fun x hx => h x (by simp [hx]))]
    simp [hi]
theorem Cx.anyB {id : Nat} {l : List Oper} {m : Nat} (p q dq : Nat) (is : List Nat) {t : TypeId} {cs : List AV} (hz : ZeroA P t cs) (hm : P.follows .mixedOrders = true) (hl : l.length = m) (hpm : Nat.ble p m = true) (hd : l.all (fun o => noDef o.op) = true) (hA : allocB l.toArray p q dq t = true) (his : (Nat.beq (is.length + 1) p && is.all fun i => Nat.blt i m) = true)
    (hlex : lexIs l.toArray p is ((lst 0 m).setIfInBounds q true) = true) (htail : (Nat.beq p m || tailB l.toArray p m) = true) (hch : chainB l.toArray (m - p) p (lst p m) = true)
    (h : Ox P c n l.toArray (ThenB P c n l.toArray Q (l.drop p) dq t cs L) (is.filterMap (l[·]?)) F L) : Cx P c n (.region id l.toArray true) Q F L :=
  ⟨fun H w a hs hF _ => by
    have hpm := Nat.le_of_ble_eq_true hpm
    have hsz : l.toArray.size = m := by simpa using hl
    have his' := his
    simp only [Bool.and_eq_true, List.all_eq_true] at his'
    obtain ⟨his1, his2⟩ := his'
    have his1 := Nat.eq_of_beq_eq_true his1
    have hq : q < p := by simp only [allocB, Bool.and_eq_true] at hA; simpa [Nat.blt_eq] using hA.1.1
    have hmap := fm_map hl is his2
    refine wpIn_of_any hd hm ?_
    obtain ⟨F', h1, h2⟩ := h.out
    have hAA := wpAnyA_is (p := p) (K := ThenB P c n l.toArray Q (l.drop p) dq t cs L) (fun F G e k => k.congr F G e) (is.filterMap (l[·]?)) is ((lst 0 m).setIfInBounds q true) F F' (by rw [hmap]; simp) (fun j i hj => by
        have hi : i < l.length := by rw [hl]; have := his2 i (List.mem_of_getElem? hj); simpa [Nat.blt_eq] using this
        rw [hmap, List.getElem?_map, hj]
        simp [hi]) hlex h1 h2
    have e0 : lst 0 m = Array.replicate m false := by simp [lst]
    have := wpAny_of_B (m := m) (Q' := OnlyN Q) (K := ThenB P c n l.toArray Q (l.drop p) dq t cs L) (c := c) (n := n) (L := L) hz hA hsz hpm (fun listed hc hu j hj => by
        rcases Bool.or_eq_true _ _ ▸ htail with he | ht
        · have := Nat.eq_of_beq_eq_true he
          obtain ⟨_, o', ho', _⟩ := mem_ready.1 hj
          rw [this, ← hsz]
          exact (Array.getElem?_eq_some_iff.1 ho').1
        · exact tail_spec hsz ht listed hc hu j hj)
      (fun F g H w a k hs hF => by
        have hw := (k g).out H w a hs hF
        have := wpAny_chain (l.drop p) p (lst p m) a w (fun j hj => by simp) (by rw [List.length_drop, hl]; exact hch) hw
        rwa [List.length_drop, hl] at this) p is.length false (lst 0 m) F H _ a (by simp [lst]) (fun k o ho hk => by rw [e0] at hk; simp [Array.getElem?_replicate] at hk; split at hk <;> simp_all) (by
          rw [e0]
          have : ∀ k, k ≤ m → unl k (Array.replicate m false) = k := by
            intro k
            induction k with
            | zero => intro _; rfl
            | succ k ih =>
              intro hk
              have h3 := ih (by omega)
              simp only [unl, h3]
              rw [if_pos (by simp [show k < m by omega])]
          exact this p hpm) (by rw [e0]; simp [show q < m by omega]) (by simpa using his1) (fun i _ => by rw [e0]; simp [Array.getElem?_replicate]; split <;> simp) hAA ⟨fun _ => ⟨hs.drew, hF⟩, fun h => by cases h⟩
    rw [show p + (m - p) = m by omega, e0] at this
    rw [hsz]
    exact this⟩
end
end Go.E2
namespace Go.E2
open Go.RowKit
section
variable {P : Program} {c : Ctx} {n : Cfg} {Q : Exit → Act → World → Prop} {F : Fr} {L : List Ent} {ops : Array Oper} {ty : TypeId}
variable {d : Option Tmp} {pos : String} {aft : Array Edge} {gd : Option (Nat × Bool)} {rest : List Oper} {m : Nat} {ds : List Deferred} {H : Cells} {w : World}

/-! contracts over the caller's own local heap -/
structure FnL (P : Program) (c : Ctx) (f : FuncId) (args : List AV) (L : List Ent) (Φ : AV → List Ent → Prop) : Prop where
  out : ∀ H w vs, St c H w L → RelL H args vs → Calls P f vs.toArray w fun e w' => ∃ v a H' L', e = .returned v ∧ Φ a L' ∧ Rel H' a v ∧ H.le H' ∧ St c H' w' L'
/-- the context with the cells that are frozen now -/
theorem St.rebase (h : St c H w L) : St ⟨c.w0, H⟩ H w L := ⟨h.below, Cells.le_refl _, h.hin, fun _ _ _ hu _ => hu, h.holds, h.apart, h.dr⟩
theorem St.unbase {H' : Cells} {w' : World} {L' : List Ent} (h0 : St c H w L) (h : St ⟨c.w0, H⟩ H' w' L') : St c H' w' L' := ⟨h.below, h0.le.trans h.le, h.hin, fun b o u hu hb => h0.old b o u (h.old b o u hu hb) hb, h.holds, h.apart, h.dr⟩
structure KtopL (P : Program) (c : Ctx) (m : Nat) (fn : Func) (Φ : AV → List Ent → Prop) (K : Exit → Act → World → Prop) : Prop where
  ex : ∃ c0, (∀ H' w' L', St c H' w' L' → St c0 H' w' L') ∧ ∀ e F L, Ex c ⟨m, [], none⟩ (bodyPost P fn (fun e w' => ∃ v a H' L', e = .returned v ∧ Φ a L' ∧ Rel H' a v ∧ c.H0.le H' ∧ St c0 H' w' L')) e F L → Ex c ⟨m, [], none⟩ K e F L
theorem fnL_of {f : FuncId} {fn : Func} {x : Code} {args : List AV} {Φ : AV → List Ent → Prop} (hf : P.funcs[f]? = some fn) (hb : fn.body = some x) (hn : fn.ntmps = m) (ha : Nat.ble args.length m = true)
    (h : ∀ c' K, c'.w0 = c.w0 → c.H0.le c'.H0 → KtopL P c' m fn Φ K → Cx P c' ⟨m, [], none⟩ x K (argF 0 args) L) : FnL P c f args L Φ := by
  have ha : args.length ≤ m := Nat.le_of_ble_eq_true ha
  refine ⟨fun H w vs hs hr => calls_of_wp hf hb ?_⟩
  rw [hn]
  exact wpIn_wide.1 ((h ⟨c.w0, H⟩ _ rfl hs.le ⟨c, fun _ _ _ h5 => hs.unbase h5, fun _ _ _ k => k⟩).out H w _ hs.rebase (fit_args hr (by rw [← hr.len]; exact ha) none) 0)
/-! yield -/
def Yld (P : Program) (c : Ctx) (lp : Nat) (x : AV) (L : List Ent) (Ψ : Bool → List Ent → Prop) : Prop :=
  ∀ H w v, St c H w L → Rel H x v → ∀ d, YieldAt Fence.wide d P lp #[v] w fun e w' => ∃ b H' L', e = .returned (.bool b) ∧ H.le H' ∧ Ψ b L' ∧ St c H' w' L'
structure Yx (P : Program) (c : Ctx) (n : Cfg) (ops : Array Oper) (Q : Exit → Act → World → Prop) (l : List Oper) (F : Fr) (L : List Ent) : Prop where
  out : ∀ H w a, St c H w L → Fit H n F a → ∀ d, wpListIn (wd n.ro) d P ops Q l a w
theorem wpList_in {ro : Option Nat} {d : Nat} {suf : List Oper} {K : Exit → Act → World → Prop} (hK : ∀ a w, K .normal a w → wpListIn (wd ro) d P ops Q suf a w) : ∀ (l : List Oper) (_ : l.all (fun o => noDef o.op) = true) (a : Act) (w : World), wpList P ops (OnlyN K) l a w → wpListIn (wd ro) d P ops Q (l ++ suf) a w
  | [], _, a, w, h => hK a w h
  | o :: l, hd, a, w, h => by
    simp only [List.all_cons, Bool.and_eq_true] at hd
    unfold wpList at h
    show wpListIn _ _ _ _ _ (o :: (l ++ suf)) _ _
    unfold wpListIn
    split at h
    · rename_i hw
      rw [if_pos hw]
      rcases h with h | ⟨_, _, _, hf⟩
      · have := oper_in (ro := ro) (d := d) (Q := Q) (K' := wpListIn (wd ro) d P ops Q (l ++ suf)) hd.1 (fun a w h => wpList_in hK l hd.2 a w h) (o := o) (a := a) (w := w) (P := P) (by
          unfold Oper.wp at h ⊢
          generalize (execOp a.eval o).run P w = r at *
          cases r with
          | ok nx w' =>
            cases nx <;> simp only [Oper.upon] at h ⊢ <;>
              first
                | exact h
                | (refine Calls.mono h ?_
                   intro e w'' he
                   cases e with
                   | returned v => exact he
                   | panicked c => exact he.elim
                   | outgrown => obtain ⟨_, _, hf⟩ := he; exact hf.elim)
                | exact Rows.mono h (fun _ _ he => he)
          | halt x w' => cases x <;> simp only [Oper.upon] at h ⊢ <;> exact h.elim)
        exact this
      · exact hf.elim
    · rename_i hw
      rw [if_neg hw]
      exact ⟨fun _ _ => trivial, wpList_in hK l hd.2 _ w h⟩
structure Kyx (P : Program) (c : Ctx) (n : Cfg) (ops : Array Oper) (suf : List Oper) (Q K : Exit → Act → World → Prop) : Prop where
  norm : ∀ F L, Yx P c n ops Q suf F L → Ex c n K .normal F L
theorem roundIn_wd {ro : Option Nat} {dd l : Nat} {f : FuncId} {tmps : Array Value} {assign body : Code} {w : World} {R : Ending → World → Prop} (h : RoundIn Fence.wide dd P l f tmps assign body w R) : RoundIn (wd ro) dd P l f tmps assign body w R := h
theorem Yx.yield {lp : Nat} {x y : Operand} {a b : AV} {ts : Array TypeId} {Ψ : Bool → List Ent → Prop} (hd : rest.all (fun o => noDef o.op) = true) (hg : wantB ops n F gd = some true)
    (hx : oget n F x = some (.v (.func (.yield lp) #[] #[]))) (hv : oget n F y = some a) (hs : Sb L a b) (hy : Yld P c lp b L Ψ) (k : ∀ q L', Ψ q L' → Lx P c n ops Q rest (putF d (.v (.bool q)) F) L') :
    Yx P c n ops Q (⟨d, .call ⟨.value x, #[y], ts⟩, ty, pos, aft, gd⟩ :: rest) F L :=
  ⟨fun H w ac hst hF dd => by
    refine wpListIn_step fun K hK => ?_
    rw [if_pos (wanted_fit (o := ⟨d, _, ty, pos, aft, gd⟩) hF.size hF.rel hg)]
    refine ⟨fun _ _ => trivial, ?_⟩
    rw [Oper.semAt_eq _ _ _ (fun c hc => by simp at hc)]
    obtain ⟨fn, tmps, asg, body, hrun, hround⟩ := hy H w (ac.eval y) hst (hs.rel hst (hF.eval hv)) (dd - 1)
    have hr : (execOp ac.eval ⟨d, .call ⟨.value x, #[y], ts⟩, ty, pos, aft, gd⟩).run P w = .ok (.round lp fn tmps asg body) w := by
      simp only [execOp, resolve, (hF.eval hx).inv]
      simp [Deferred.ofValue, invoke, hrun]
    rw [hr, Oper.uponIn_round]
    refine ⟨fun h => by simp [wd, Fence.wide] at h, RoundIn.mono (roundIn_wd hround) ?_⟩
    rintro e w' ⟨q, H', L', rfl, hl, hp, hst'⟩
    refine hK _ _ ?_
    have := wpList_in (P := P) (ops := ops) (ro := n.ro) (d := dd) (Q := Q) (suf := []) (K := Q) (fun a w h => h) rest hd _ _ ((k q L' hp).out H' w' _ hst' ((hF.mono hl).put (.v _) d))
    rwa [List.append_nil] at this⟩
theorem Yx.skip {o : Oper} (hd : rest.all (fun o => noDef o.op) = true) (hg : wantB ops n F o.guard = some false) (k : Lx P c n ops Q rest (putF o.dst (.v undef) F) L) : Yx P c n ops Q (o :: rest) F L :=
  ⟨fun H w a hs hF dd => by
    refine wpListIn_step fun K hK => ?_
    rw [if_neg (by rw [wanted_fit hF.size hF.rel hg]; simp)]
    refine ⟨fun _ _ => trivial, hK _ _ ?_⟩
    have := wpList_in (P := P) (ops := ops) (ro := n.ro) (d := dd) (Q := Q) (suf := []) (K := Q) (fun a w h => h) rest hd _ _ (k.out H w _ hs (hF.put (.v _) o.dst))
    rwa [List.append_nil] at this⟩
theorem Yx.split {l : List Oper} (s : Nat) {b : Bool} (hv : look F s = some (.v (.bool b))) (ht : b = true → Yx P c n ops Q l ((s, .v (.bool true)) :: F) L) (hf : b = false → Yx P c n ops Q l ((s, .v (.bool false)) :: F) L) : Yx P c n ops Q l F L :=
  ⟨fun H w a hs hF => by
    cases b with
    | true => exact (ht rfl).out H w a hs (hF.shadow hv)
    | false => exact (hf rfl).out H w a hs (hF.shadow hv)⟩

/-! iterators: they yield the members of xs one after the other -/
structure Iter (P : Program) (gf : FuncId) (caps xs : List AV) : Prop where
  out : ∀ (c : Ctx) (lp : Nat) (I : Nat → List Ent → Prop) (S : List Ent → Prop),
    (∀ k x E L c', c'.w0 = c.w0 → c.H0.le c'.H0 → xs[k]? = some x → I k L → Yld P c' lp x (E ++ L) fun b L' => ∃ L1, L' = E ++ L1 ∧ match b with | true => I (k + 1) L1 | false => S L1) →
    ∀ L, I 0 L → FnL P c gf (.v (.func (.yield lp) #[] #[]) :: caps) L fun a L' => a = .tup [] ∧ (I xs.length L' ∨ S L')

/-! a round -/
structure Kasg (P : Program) (m lp : Nat) (c : Ctx) (body : Code) (T T' : List Ent) (K2 K : Exit → Act → World → Prop) : Prop where
  begin : ∀ F L, Cx P c ⟨m, [], some lp⟩ body K2 F (L ++ T') → Ex c ⟨m, [], some lp⟩ K .normal F (L ++ T)
structure Krnd (m lp : Nat) (c : Ctx) (T' : List Ent) (J : List Ent → Prop) (S : Code → List Ent → Prop) (K2 : Exit → Act → World → Prop) : Prop where
  norm : ∀ F L, J L → Ex c ⟨m, [], some lp⟩ K2 .normal F (L ++ T')
  ret : ∀ F L, S .ret L → Ex c ⟨m, [], some lp⟩ K2 .ret F (L ++ T')
  exit : ∀ id F L, S (.exit id) L → Ex c ⟨m, [], some lp⟩ K2 (.exit id) F (L ++ T')
theorem Ex.sub {e : Exit} {L' : List Ent} (hs : L'.Sublist L) (h : Ex c n Q e F L') : Ex c n Q e F L := ⟨fun H w a hw hF => h.out H w a (hw.sub hs) hF⟩
theorem Ex.begin {lp : Nat} {body : Code} {T T' : List Ent} {K2 K : Exit → Act → World → Prop} (hk : Kasg P m lp c body T T' K2 K) (L1 : List Ent) (hL : (L1 ++ T).Sublist L) (h : Cx P c ⟨m, [], some lp⟩ body K2 F (L1 ++ T')) : Ex c ⟨m, [], some lp⟩ K .normal F L := Ex.sub hL (hk.begin F L1 h)
theorem Ex.round {lp : Nat} {T' : List Ent} {J : List Ent → Prop} {S : Code → List Ent → Prop} {K2 : Exit → Act → World → Prop} (hk : Krnd m lp c T' J S K2) (L1 : List Ent) (hL : (L1 ++ T').Sublist L) (h : J L1) : Ex c ⟨m, [], some lp⟩ K2 .normal F L := Ex.sub hL (hk.norm F L1 h)
theorem Ex.roundRet {lp : Nat} {T' : List Ent} {J : List Ent → Prop} {S : Code → List Ent → Prop} {K2 : Exit → Act → World → Prop} (hk : Krnd m lp c T' J S K2) (L1 : List Ent) (hL : (L1 ++ T').Sublist L) (h : S .ret L1) : Ex c ⟨m, [], some lp⟩ K2 .ret F L := Ex.sub hL (hk.ret F L1 h)
theorem Ex.roundExit {lp id : Nat} {T' : List Ent} {J : List Ent → Prop} {S : Code → List Ent → Prop} {K2 : Exit → Act → World → Prop} (hk : Krnd m lp c T' J S K2) (L1 : List Ent) (hL : (L1 ++ T').Sublist L) (h : S (.exit id) L1) : Ex c ⟨m, [], some lp⟩ K2 (.exit id) F L := Ex.sub hL (hk.exit id F L1 h)
theorem perm1 (a b : Ent) (E L : List Ent) : (L ++ a :: b :: E).Perm (a :: (L ++ b :: E)) := List.perm_middle
theorem perm2 (a b : Ent) (E L : List Ent) : (E ++ a :: b :: L).Perm (L ++ a :: b :: E) :=
  (List.perm_middle.trans ((List.perm_middle.trans ((List.perm_append_comm).cons b)).cons a)).trans
    ((List.perm_middle (a := a)).trans ((List.perm_middle (a := b)).cons a)).symm
theorem St.putObj {l : Nat} {o : Obj} (o' : Obj) (h : St c H w (.obj l o :: L)) : St c H (w.putObj l o') (.obj l o' :: L) := by
  obtain ⟨h1, h2, h3⟩ := h.holds (.obj l o) (by simp)
  have hlt : l < w.heap.size := blk_lt h2
  have := h.turn (i := 0) (e := .obj l o) (e' := .obj l o') (w' := w.putObj l o') rfl (hin_heap h.hin fun b o u hu => World.putObj_heap_other (fun e => by subst e; rw [h3 o] at hu; cases hu)) ⟨h1, World.putObj_heap_same hlt, h3⟩ ⟨rfl, rfl, rfl, by simp, fun k _ hk => World.putObj_heap_other (fun e => hk (by rw [e]; rfl))⟩ (.inl rfl) (Nat.le_refl _)
  simpa using this
theorem St.obj {l : Nat} {o : Obj} (h : St c H w (.obj l o :: L)) : w.heap[l]? = some o := (h.holds (.obj l o) (by simp)).2.1
theorem St.tail {e : Ent} (h : St c H w (e :: L)) : St c H w L := h.sub (List.sublist_cons_self _ _)
/-- the record of a loop with one variable -/
def lrec (tmps : Array Value) (p D : Nat) (fn : FuncId) (assign body : Code) (st : LoopState) (pd : Option Code) : Loop := { state := st, pending := pd, fn := fn, tmps := tmps, params := #[p], assign := assign, body := body, defers := D }
def hid (lp D : Nat) (r : Loop) : List Ent := [.obj lp (.loop r), .obj D (.deferred (some []))]
def rndPost (E : List Ent) (lp D : Nat) (r : LoopState → Option Code → Loop) (J : List Ent → Prop) (S : Code → List Ent → Prop) (b : Bool) (L' : List Ent) : Prop :=
  ∃ L1, L' = E ++ L1 ∧ match b with
    | true => ∃ L2, L1 = hid lp D (r .ready none) ++ L2 ∧ J L2
    | false => ∃ c L2, L1 = hid lp D (r .done (some c)) ++ L2 ∧ S c L2
theorem yld_of {lp D p : Nat} {fn : FuncId} {assign body : Code} {x : AV} {E : List Ent} {J : List Ent → Prop} {S : Code → List Ent → Prop} {tmps : Array Value} (hF : Fit c.H0 ⟨m, [], some lp⟩ F ⟨tmps, []⟩)
    (h : ∀ c' T T' K K2, c'.w0 = c.w0 → Kasg P m lp c' body T T' K2 K → Krnd m lp c' T' J S K2 → Cx P c' ⟨m, [], some lp⟩ assign K ((p, x) :: F) (L ++ T)) :
    Yld P c lp x (E ++ (hid lp D (lrec tmps p D fn assign body .ready none) ++ L)) (rndPost E lp D (lrec tmps p D fn assign body) J S) := by
  intro H w v hs hx dd
  have hl : w.heap[lp]? = some (.loop (lrec tmps p D fn assign body .ready none)) := (hs.perm List.perm_middle).obj
  have hy : (Instr.yield lp #[v]).run P w = .ok (.round lp fn (Act.put ⟨tmps, []⟩ (some p) v).tmps assign body) w := by
    rw [run_yield hl (by simp [lrec])]
    simp [lrec, Act.put]
  refine ⟨fn, _, assign, body, hy, roundIn_of_wpIn trivial ?_⟩
  have hs' := hs.rebase
  have hfit : Fit H ⟨m, [], some lp⟩ ((p, x) :: F) ⟨(Act.put ⟨tmps, []⟩ (some p) v).tmps, []⟩ := (hF.mono hs.le).put hx (some p)
  refine (h ⟨c.w0, H⟩ (.obj lp (.loop (lrec tmps p D fn assign body .ready none)) :: .obj D (.deferred (some [])) :: E) (.obj lp (.loop (lrec tmps p D fn assign body .busy none)) :: .obj D (.deferred (some [])) :: E) _ (roundPost P lp fun e w' => ∃ b H' L', e = .returned (.bool b) ∧ H.le H' ∧ rndPost E lp D (lrec tmps p D fn assign body) J S b L' ∧ St c H' w' L') rfl ⟨?_⟩ ⟨?_, ?_, ?_⟩).out H w _ (hs'.perm (perm2 _ _ _ _)) hfit dd
  · intro F L hb
    refine ⟨fun H1 w1 a1 hs1 hF1 => ⟨_, run_beginRound (hs1.perm (perm1 _ _ _ _)).obj rfl, hb.out H1 _ a1 ?_ hF1 dd⟩⟩
    exact ((hs1.perm (perm1 _ _ _ _)).putObj _).perm (perm1 _ _ _ _).symm
  · intro F L hj
    refine ⟨fun H1 w1 a1 hs1 hF1 => ⟨_, _, run_endRound none (hs1.perm (perm1 _ _ _ _)).obj, true, H1, _, rfl, hs1.le, ⟨_, rfl, L, rfl, hj⟩, ?_⟩⟩
    exact hs.unbase ((((hs1.perm (perm1 _ _ _ _)).putObj _).perm (perm1 _ _ _ _).symm).perm (perm2 _ _ _ _).symm)
  · intro F L hj
    refine ⟨fun H1 w1 a1 hs1 hF1 => ⟨_, _, run_endRound (some .ret) (hs1.perm (perm1 _ _ _ _)).obj, false, H1, _, rfl, hs1.le, ⟨_, rfl, .ret, L, rfl, hj⟩, ?_⟩⟩
    exact hs.unbase ((((hs1.perm (perm1 _ _ _ _)).putObj _).perm (perm1 _ _ _ _).symm).perm (perm2 _ _ _ _).symm)
  · intro id F L hj
    refine ⟨fun H1 w1 a1 hs1 hF1 => ⟨_, _, run_endRound (some (.exit id)) (hs1.perm (perm1 _ _ _ _)).obj, false, H1, _, rfl, hs1.le, ⟨_, rfl, .exit id, L, rfl, hj⟩, ?_⟩⟩
    exact hs.unbase ((((hs1.perm (perm1 _ _ _ _)).putObj _).perm (perm1 _ _ _ _).symm).perm (perm2 _ _ _ _).symm)

/-! the range over a function -/
def mark (D : Nat) : Deferred := ⟨.collected D, #[]⟩
theorem Cx.range {g : Operand} {p : Tmp} {assign body : Code} {gf : FuncId} {a : AV} {caps xs : List AV} (hent : EntersT P gf)
    (hg : oget ⟨m, ds, none⟩ F g = some a) (hsb : Sb L a (.fn (.func gf) caps)) (hit : Iter P gf caps xs) (J : Nat → List Ent → Prop) (S : Code → List Ent → Prop) (L0 : List Ent) (hL0 : L0.Sublist L) (h0 : J 0 L0)
    (round : ∀ k x L c' lp T T' K K2, c'.w0 = c.w0 → xs[k]? = some x → J k L → Kasg P m lp c' body T T' K2 K → Krnd m lp c' T' (J (k + 1)) S K2 → Cx P c' ⟨m, [], some lp⟩ assign K ((p, x) :: F) (L ++ T))
    (done : ∀ L D, J xs.length L → Ex c ⟨m, mark D :: ds, none⟩ Q .normal F (.obj D (.deferred (some [])) :: L))
    (stop : ∀ cd L D, S cd L → Cx P c ⟨m, mark D :: ds, none⟩ cd Q F (.obj D (.deferred (some [])) :: L)) :
    Cx P c ⟨m, ds, none⟩ (.rangeFunc g #[p] assign body) Q F L :=
  ⟨fun H w ac hs hF dd => by
    obtain ⟨vs, eg, hcap⟩ := (hsb.rel hs (hF.eval hg)).inv_fn
    have hs := hs.sub hL0
    refine wpIn_rangeFunc fun fn _ => ?_
    have hst : St c H ((w.alloc (.deferred (some []))).alloc (.loop (lrec ac.tmps p w.heap.size fn assign body .ready none))) (hid (w.heap.size + 1) w.heap.size (lrec ac.tmps p w.heap.size fn assign body .ready none) ++ L0) := by
      have h1 := hs.trans (St.newObj hs.hin (.deferred (some [])))
      have h2 := h1.trans (St.newObj h1.hin (.loop (lrec ac.tmps p w.heap.size fn assign body .ready none)))
      simpa [hid] using h2
    generalize hW : (w.alloc (.deferred (some []))).alloc (.loop (lrec ac.tmps p w.heap.size fn assign body .ready none)) = W at hst
    have hfit0 : Fit H ⟨m, [], some (w.heap.size + 1)⟩ F ⟨ac.tmps, []⟩ := ⟨rfl, hF.size, hF.rel⟩
    have hc := (hit.out ⟨c.w0, H⟩ (w.heap.size + 1)
      (fun k L => ∃ L1, L = hid (w.heap.size + 1) w.heap.size (lrec ac.tmps p w.heap.size fn assign body .ready none) ++ L1 ∧ J k L1)
      (fun L => ∃ c L1, L = hid (w.heap.size + 1) w.heap.size (lrec ac.tmps p w.heap.size fn assign body .done (some c)) ++ L1 ∧ S c L1)
      (fun k x E L c' hc' hle hx ⟨L1, hL, hj⟩ => by
        subst hL
        exact yld_of (hfit0.mono hle) fun c'' T T' K K2 hc'' hKa hKr => round k x L1 c'' _ T T' K K2 (hc''.trans hc') hx hj hKa hKr)
      (hid (w.heap.size + 1) w.heap.size (lrec ac.tmps p w.heap.size fn assign body .ready none) ++ L0) ⟨L0, rfl, h0⟩).out H W (.func (.yield (w.heap.size + 1)) #[] #[] :: vs) hst.rebase (.cons (.v _) hcap)
    refine ⟨w.heap.size + 1, [mark w.heap.size], W, ⟨.fn (.func gf) vs.toArray, #[.func (.yield (w.heap.size + 1)) #[] #[]]⟩, W, gf, (.func (.yield (w.heap.size + 1)) #[] #[] :: vs).toArray, W, ?_, ?_, fun _ _ => trivial, ?_, fun h => by simp [wd, Fence.wide] at h, ?_⟩
    · rw [← hW]; exact run_enterLoop_outer _ _ _ _ _
    · have hy : ac.eval (.const (.func (.yield (w.heap.size + 1)) #[] #[])) = .func (.yield (w.heap.size + 1)) #[] #[] := rfl
      simp [resolve, eg, Deferred.ofValue, hy]
    · simp [invoke, hent _ W]
    · refine callsIn_wd none _ (Calls.mono hc ?_)
      rintro e w' ⟨v, b, H', L', rfl, ⟨rfl, hp⟩, hrel, hle, hst'⟩
      have hst' := hst.unbase hst'
      have hfit : Fit H' ⟨m, mark w.heap.size :: ds, none⟩ F { ac with defers := [mark w.heap.size] ++ ac.defers } := ⟨by simp [hF.ds], hF.size, (hF.mono hle).rel⟩
      rcases hp with ⟨L1, rfl, hj⟩ | ⟨cd, L1, rfl, hsp⟩
      · exact ⟨none, _, run_endLoop hst'.obj (by simp [lrec]), (done L1 _ hj).out H' _ _ (hst'.putObj _).tail hfit⟩
      · exact ⟨some cd, _, run_endLoop hst'.obj (by simp [lrec]), (stop cd L1 _ hsp).out H' _ _ (hst'.putObj _).tail hfit dd⟩⟩

/-! functions that hold a range over a function -/
structure Kmark (m : Nat) (c : Ctx) (K0 K : Exit → Act → World → Prop) : Prop where
  ret : ∀ F L, Ex c ⟨m, [], none⟩ K0 .ret F L → Ex c ⟨m, [], none⟩ K .ret F L
  norm : ∀ F L, Ex c ⟨m, [], none⟩ K0 .normal F L → Ex c ⟨m, [], none⟩ K .normal F L
  moreR : ∀ D ds F L, Ex c ⟨m, ds, none⟩ K .ret F L → Ex c ⟨m, mark D :: ds, none⟩ K .ret F (.obj D (.deferred (some [])) :: L)
  moreN : ∀ D ds F L, Ex c ⟨m, ds, none⟩ K .normal F L → Ex c ⟨m, mark D :: ds, none⟩ K .normal F (.obj D (.deferred (some [])) :: L)
theorem fit_tail {D : Deferred} {a : Act} (hF : Fit H ⟨m, D :: ds, none⟩ F a) : Fit H ⟨m, ds, none⟩ F { a with defers := ds } := ⟨rfl, hF.size, hF.rel⟩
theorem fn_ofM {f : FuncId} {fn : Func} {x : Code} {args : List AV} {Φ : AV → List Ent → Prop} (hf : P.funcs[f]? = some fn) (hb : fn.body = some x) (hn : fn.ntmps = m) (ha : Nat.ble args.length m = true)
    (h : ∀ c K0 K, Ktop P c m fn Φ K0 → Kmark m c K0 K → Cx P c ⟨m, [], none⟩ x K (argF 0 args) []) : FnE P f args Φ := by
  have ha : args.length ≤ m := Nat.le_of_ble_eq_true ha
  refine ⟨fun H w vs hi hr => callsIn_wide.1 (callsIn_of_wp_marks (F := Fence.wide) (n := 0) hf hb trivial ?_)⟩
  rw [hn]
  refine (h ⟨w, H⟩ _ (bodyPostM Fence.wide 0 P fn (Post ⟨w, H⟩ Φ)) ⟨fun _ _ _ k => k⟩ ⟨?_, ?_, ?_, ?_⟩).out H w _ (St.refl hi) (fit_args hr (by rw [← hr.len]; exact ha) none) 0
  · exact fun F L k => ⟨fun H1 w1 a hs hF => by
      show LeavesInM Fence.wide 0 P fn a.tmps (Post ⟨w, H⟩ Φ) a.defers .returning w1
      rw [hF.ds]; exact (k.out H1 w1 a hs hF).2⟩
  · exact fun F L k => ⟨fun H1 w1 a hs hF => by
      show LeavesInM Fence.wide 0 P fn a.tmps (Post ⟨w, H⟩ Φ) a.defers .returning w1
      rw [hF.ds]; exact (k.out H1 w1 a hs hF).2⟩
  · exact fun D ds F L k => ⟨fun H1 w1 a hs hF => by
      show LeavesInM Fence.wide 0 P fn a.tmps (Post ⟨w, H⟩ Φ) a.defers .returning w1
      rw [hF.ds]
      exact ⟨by simp, .inl ⟨D, _, rfl, run_takeDeferred hs.obj, k.out H1 _ _ (hs.putObj _).tail (fit_tail hF)⟩⟩⟩
  · exact fun D ds F L k => ⟨fun H1 w1 a hs hF => by
      show LeavesInM Fence.wide 0 P fn a.tmps (Post ⟨w, H⟩ Φ) a.defers .returning w1
      rw [hF.ds]
      exact ⟨by simp, .inl ⟨D, _, rfl, run_takeDeferred hs.obj, k.out H1 _ _ (hs.putObj _).tail (fit_tail hF)⟩⟩⟩
theorem Ex.perm {e : Exit} {L' : List Ent} (hp : L.Perm L') (h : Ex c n Q e F L') : Ex c n Q e F L := ⟨fun H w a hs hF => h.out H w a (hs.perm hp) hF⟩
theorem Cx.perm {x : Code} {L' : List Ent} (hp : L.Perm L') (h : Cx P c n x Q F L') : Cx P c n x Q F L := ⟨fun H w a hs hF d => h.out H w a (hs.perm hp) hF d⟩
/-- a cell of a block seen otherwise -/
theorem St.seeB {i off g : Nat} {t : TypeId} {z : Bool} {cs : List AV} {a b : AV} (h : St c H w L) (hL : L[i]? = some (.blk g t z cs)) (ha : cs[off]? = some a) (hs : Sb L a b) : St c H w (L.set i (.blk g t z (cs.set off b))) := by
  obtain ⟨h1, us, h2, h3, h4, h5⟩ := h.holds _ (List.mem_of_getElem? hL)
  refine h.more hL (Cells.le_refl _) h.hin (fun _ _ _ => rfl) ⟨h1, us, h2, ?_, h4, h5⟩ rfl
  obtain ⟨u, e1, e2⟩ := h3.get ha
  have := h3.set (hs.rel h e2) off
  have e3 : us.set off u = us := by
    obtain ⟨hlt, he⟩ := List.getElem?_eq_some_iff.1 e1
    rw [← he]; simp
  rwa [e3] at this
theorem Cx.seeB {x : Code} (i off : Nat) {g : Nat} {t : TypeId} {z : Bool} {cs : List AV} {a b : AV} (hL : L[i]? = some (.blk g t z cs)) (ha : cs[off]? = some a) (hs : Sb L a b) (k : Cx P c n x Q F (L.set i (.blk g t z (cs.set off b)))) : Cx P c n x Q F L := ⟨fun H w ac hst hF d => k.out H w ac (hst.seeB hL ha hs) hF d⟩
end
end Go.E2
namespace Go.E2
open Go.RowKit
section
variable {P : Program} {c : Ctx} {n : Cfg} {ops : Array Oper} {Q : Exit → Act → World → Prop} {F : Fr} {L : List Ent}
theorem Lx.see {l : List Oper} (s : Nat) {a b : AV} (h : look F s = some a) (hs : Sb L a b) (k : Lx P c n ops Q l ((s, b) :: F) L) : Lx P c n ops Q l F L :=
  ⟨fun H w ac hst hF => k.out H w ac hst ⟨hF.ds, hF.size, fun t y ht hn => by
    by_cases e : s = t
    · subst e
      rw [look_cons_self] at ht
      cases ht
      obtain ⟨v, h1, h2⟩ := hF.rel s a h hn
      exact ⟨v, h1, hs.rel hst h2⟩
    · rw [look_cons_ne _ _ e] at ht; exact hF.rel t y ht hn⟩⟩
end
end Go.E2
namespace Go.E2
open Go.RowKit
section
variable {P : Program} {c : Ctx} {n : Cfg} {F : Fr} {L : List Ent} {ty : TypeId}
theorem Gr.idxAF {q : IntKind} {i : Int} {t e : TypeId} {len k : Nat} {x y : Operand} {cs : List AV} {o : Nat} (ht : ArrT P t len e k) (hx : oget n F x = some (.fp cs o)) (hy : oget n F y = some (.v (.int q i))) (h0 : 0 ≤ i) (h1 : i < len) : Gr P c n (.indexAddr t x y) ty F L (.fp cs (o + i.toNat * k)) :=
  .pure fun H w ρ hst hr d pos aft _ => by
    obtain ⟨b, q', e1, h2⟩ := (hr x (by simp [Op.operands]) _ hx).inv_fp
    refine ⟨.pointer (some ⟨b, q' + (o + i.toNat * k), none⟩), ?_, .fp h2⟩
    have : (⟨b, q' + o, none⟩ : Addr).add (i.toNat * k) = ⟨b, q' + (o + i.toNat * k), none⟩ := by unfold Addr.add; split <;> simp_all; omega
    simp only [execOp, e1, hr.v (x := y) (by simp [Op.operands]) hy, Instr.indexAt, asIntOf]
    simp [run_und ht.und, h0, h1, run_sizeOf' ht.size, this, Instr.sureAddr]
theorem Gr.idxAB {q : IntKind} {i : Int} {t e : TypeId} {len k g o : Nat} {x y : Operand} (ht : ArrT P t len e k) (hx : oget n F x = some (.v (.pointer (some ⟨g, o, none⟩)))) (hy : oget n F y = some (.v (.int q i))) (h0 : 0 ≤ i) (h1 : i < len) : Gr P c n (.indexAddr t x y) ty F L (.v (.pointer (some ⟨g, o + i.toNat * k, none⟩))) :=
  .pure fun H w ρ hst hr d pos aft _ => by
    have e1 := hr.v (x := x) (by simp [Op.operands]) hx
    refine ⟨.pointer (some ⟨g, o + i.toNat * k, none⟩), ?_, .v _⟩
    have : (⟨g, o, none⟩ : Addr).add (i.toNat * k) = ⟨g, o + i.toNat * k, none⟩ := by unfold Addr.add; split <;> simp_all
    simp only [execOp, e1, hr.v (x := y) (by simp [Op.operands]) hy, Instr.indexAt, asIntOf]
    simp [run_und ht.und, h0, h1, run_sizeOf' ht.size, this, Instr.sureAddr]
end
end Go.E2
namespace Go.E2
open Go.RowKit
section
variable {P : Program} {c : Ctx} {n : Cfg} {Q : Exit → Act → World → Prop} {F G : Fr} {L : List Ent} {ops : Array Oper}
theorem wpAnyIn_of_A {ro : Option Nat} {dd p m : Nat} {Q' : Exit → Act → World → Prop} {K : Fr → Prop} (hd : ∀ (i : Nat) (o : Oper), ops[i]? = some o → noDef o.op = true) (hm : ops.size = m) (hpm : p ≤ m) (hT : ∀ listed, Closed ops listed → (∃ i, i < p ∧ listed.getD i true = false) → ∀ j ∈ Region.ready .any ops listed, j < p)
    (hK : ∀ F H w a, K F → St c H w L → Fit H n F a → wpAnyIn (wd ro) dd P .any ops Q' (m - p) (lst p m) a w) :
    ∀ (fuel : Nat) (listed : Array Bool) (F : Fr) (H : Cells) (w : World) (a : Act), listed.size = m → Closed ops listed → unl p listed = fuel → (∀ i, p ≤ i → listed.getD i false = false) → wpAnyA P c n L ops p K fuel listed F → St c H w L → Fit H n F a → wpAnyIn (wd ro) dd P .any ops Q' (fuel + (m - p)) listed a w
  | 0, listed, F, H, w, a, hs, _, hu, h1, h, hst, hF => by
    rw [Nat.zero_add, lst_of hpm hs (unl_zero hu) h1]
    exact hK F H w a h.2 hst hF
  | fuel + 1, listed, F, H, w, a, hs, hc, hu, h1, h, hst, hF => by
    rw [show fuel + 1 + (m - p) = (fuel + (m - p)) + 1 by omega]
    obtain ⟨⟨i0, hi0, _⟩, hall⟩ := h
    refine ⟨fun h0 => (by rw [h0] at hi0; cases hi0), fun i hi => ?_⟩
    have hip := hT listed hc (unl_pos (by omega)) i hi
    obtain ⟨hun, o, ho, _⟩ := mem_ready.1 hi
    have hil : i < listed.size := by rw [hs, ← hm]; exact (Array.getElem?_eq_some_iff.1 ho).1
    obtain ⟨r, hy, hn⟩ := hall i hi hip o ho
    have hnext : ∀ H' w' v, H.le H' → St c H' w' L → Rel H' r v → wpAnyIn (wd ro) dd P .any ops Q' (fuel + (m - p)) (listed.setIfInBounds i true) (a.put o.dst v) w' := fun H' w' v hl hs' hr =>
      wpAnyIn_of_A hd hm hpm hT hK fuel _ _ H' w' _ (by simpa using hs) (hc.set hi) (by have := unl_set hil hun p; rw [if_pos hip] at this; omega) (fun j hj => by rw [getD_set_ne false (by omega)]; exact h1 j hj) hn hs' ((hF.mono hl).put hr o.dst)
    unfold wpOpIn
    simp only [ho]
    rcases hy.cases with ⟨_, hw, hg, hrr⟩ | ⟨hw, hrr⟩
    · rw [if_pos (wanted_fit hF.size hF.rel hw)]
      exact oper_in (hd i o ho) (fun _ _ h => h) (oper_wp_grows hst (hg.out H w a.eval hst (hF.reads _) o.dst o.pos o.after o.guard) fun H' w' v hl hs' hr => hnext H' w' v hl hs' (hrr _ _ hr))
    · rw [if_neg (by rw [wanted_fit hF.size hF.rel hw]; simp)]
      exact ⟨fun _ _ => trivial, hnext H w undef (Cells.le_refl _) hst (hrr _)⟩
theorem wpAnyIn_chain {f : Fence} {dd : Nat} {Q' : Exit → Act → World → Prop} : ∀ (l : List Oper) (k : Nat) (listed : Array Bool) (a : Act) (w : World), (∀ j, j < l.length → l[j]? = ops[k + j]?) → chainB ops l.length k listed = true → wpListIn f dd P ops Q' l a w → wpAnyIn f dd P .any ops Q' l.length listed a w
  | [], _, _, _, _, _, hB, h => ⟨by simpa [chainB] using hB, h⟩
  | o :: l, k, listed, a, w, hl, hB, h => by
    have h0 : ops[k]? = some o := by simpa using (hl 0 (by simp)).symm
    simp only [List.length_cons, chainB, Bool.and_eq_true, beq_iff_eq] at hB
    refine ⟨fun h1 => (by rw [hB.1] at h1; cases h1), fun i hi => ?_⟩
    rw [hB.1] at hi
    simp only [List.mem_singleton] at hi
    subst hi
    have hn : ∀ a w, wpListIn f dd P ops Q' l a w → wpAnyIn f dd P .any ops Q' l.length (listed.setIfInBounds i true) a w := fun a w h => wpAnyIn_chain l (i + 1) _ a w (fun j hj => by have := hl (j + 1) (by simpa using hj); simpa [Nat.add_assoc, Nat.add_comm 1 j] using this) hB.2 h
    unfold wpOpIn
    simp only [h0]
    unfold wpListIn at h
    split at h
    · rename_i hw; rw [if_pos hw]; exact Oper.wpIn_mono hn h
    · rename_i hw; rw [if_neg hw]; exact ⟨h.1, hn _ _ h.2⟩
def ThenY (P : Program) (c : Ctx) (n : Cfg) (ops : Array Oper) (Q : Exit → Act → World → Prop) (tail : List Oper) (L : List Ent) (F : Fr) : Prop := Yx P c n ops Q tail F L
theorem ThenY.congr {tail : List Oper} (F G : Fr) (h : FEq F G) (k : ThenY P c n ops Q tail L F) : ThenY P c n ops Q tail L G := ⟨fun H w a hs hF => k.out H w a hs (hF.weak fun s x hx => by rw [← h s]; exact hx)⟩
theorem Cx.anyY {id : Nat} {l : List Oper} {m : Nat} (p : Nat) (hm : P.follows .mixedOrders = true) (hl : l.length = m) (hpm : Nat.ble p m = true) (hd : l.all (fun o => noDef o.op) = true)
    (hlex : lexTo l.toArray p p 0 (lst 0 m) = true) (htail : (Nat.beq p m || tailB l.toArray p m) = true) (hch : chainB l.toArray (m - p) p (lst p m) = true)
    (h : Ox P c n l.toArray (ThenY P c n l.toArray Q (l.drop p) L) (l.take p) F L) : Cx P c n (.region id l.toArray true) Q F L :=
  ⟨fun H w a hs hF dd => by
    have hpm := Nat.le_of_ble_eq_true hpm
    have hsz : l.toArray.size = m := by simpa using hl
    have hlt : (l.take p).length = p := by simp; omega
    refine wpIn_region_draw fun t => ?_
    simp only [Region.schedule, hm, Bool.true_or, if_true]
    refine wpAnyIn_sound _ t _ a _ ?_
    obtain ⟨F', h1, h2⟩ := h.out
    have hA := wpAnyA_lex (p := p) (K := ThenY P c n l.toArray Q (l.drop p) L) (fun F G e k => ThenY.congr F G e k) (l.take p) 0 (lst 0 m) F F' (fun j hj => by rw [hlt] at hj; rw [List.getElem?_take, if_pos hj]; simp) (by rw [hlt]; exact hlex) h1 h2
    rw [hlt] at hA
    have e0 : lst 0 m = Array.replicate m false := by simp [lst]
    have := wpAnyIn_of_A (m := m) (ro := n.ro) (dd := dd) (Q' := Q) (noDef_get hd) hsz hpm (fun listed hc hu j hj => by
        rcases Bool.or_eq_true _ _ ▸ htail with he | ht
        · have := Nat.eq_of_beq_eq_true he
          obtain ⟨_, o', ho', _⟩ := mem_ready.1 hj
          rw [this, ← hsz]
          exact (Array.getElem?_eq_some_iff.1 ho').1
        · exact tail_spec hsz ht listed hc hu j hj)
      (fun F H w a k hs hF => by
        have hw := Yx.out k H w a hs hF dd
        have := wpAnyIn_chain (l.drop p) p (lst p m) a w (fun j hj => by simp) (by rw [List.length_drop, hl]; exact hch) hw
        rwa [List.length_drop, hl] at this) p (lst 0 m) F H _ a (by simp [lst]) (fun k o ho hk => by rw [e0] at hk; simp [Array.getElem?_replicate] at hk; split at hk <;> simp_all) (by
          rw [e0]
          have : ∀ k, k ≤ m → unl k (Array.replicate m false) = k := by
            intro k
            induction k with
            | zero => intro _; rfl
            | succ k ih =>
              intro hk
              have h3 := ih (by omega)
              simp only [unl, h3]
              rw [if_pos (by simp [show k < m by omega])]
          exact this p hpm) (fun i _ => by rw [e0]; simp [Array.getElem?_replicate]; split <;> simp) hA hs.drew hF
    rw [show p + (m - p) = m by omega, e0] at this
    rw [hsz]
    exact this⟩
end
end Go.E2
namespace Go.E2
open Go.RowKit
section
variable {P : Program} {c : Ctx} {n : Cfg} {Q : Exit → Act → World → Prop} {F G : Fr} {L L0 : List Ent} {ops : Array Oper}
/-- the operations that turn the heap, in their order; F holds what all others leave -/
inductive Kx (P : Program) (c : Ctx) (n : Cfg) (ops : Array Oper) (L0 : List Ent) (K : Fr → List Ent → Prop) : List Nat → Fr → List Ent → Prop
  | nil {F : Fr} {L : List Ent} (h : K F L) : Kx P c n ops L0 K [] F L
  | cons {i : Nat} {is : List Nat} {o : Oper} {F : Fr} {L : List Ent} (ho : ops[i]? = some o) (R : AV → List Ent → Prop)
      (hs : ∀ G Q, (∀ d, d ∈ o.looksAt ops → look F d = look G d) → (∀ r L', R r L' → Lx P c n ops Q [] (putF o.dst r G) L') → Lx P c n ops Q [o] G L)
      (hl : ∀ r L', R r L' → L0.Sublist L') (hk : ∀ r L', R r L' → Kx P c n ops L0 K is (putF o.dst r F) L') : Kx P c n ops L0 K (i :: is) F L
theorem YieldsA.sub {o : Oper} {r : AV} (h : YieldsA P c n L0 ops o F r) (hs : L0.Sublist L) : YieldsA P c n L ops o F r :=
  by
  obtain ⟨b, q, h1, h2, h3⟩ := h
  exact ⟨b, q, h1, fun e => ⟨fun H w ρ hst hr => (h2 e).out H w ρ (hst.sub hs) hr⟩, h3⟩
/-- what a run leaves: every operation yields at the last frame what its slot holds there -/
theorem RunA.full {l : List Oper} {F F' : Fr} (h : RunA P c n L ops l F F') : l.Pairwise (fun o o' => ∀ d, o'.dst = some d → d ∉ o.looksAt ops ∧ o.dst ≠ some d) → (∀ o ∈ l, ∀ d, o.dst = some d → d ∉ o.looksAt ops) →
    (∀ o ∈ l, ∃ r, YieldsA P c n L ops o F' r ∧ ∀ d, o.dst = some d → look F' d = some r) ∧ ∀ s, (∀ o ∈ l, o.dst ≠ some s) → look F' s = look F s := by
  induction h with
  | nil => intro _ _; exact ⟨fun o ho => (by cases ho), fun _ _ => rfl⟩
  | @cons o l F F' r h t ih =>
    intro hp hq
    rw [List.pairwise_cons] at hp
    obtain ⟨i1, i2⟩ := ih hp.2 fun o' ho' => hq o' (List.mem_cons_of_mem _ ho')
    have hput : ∀ s, o.dst ≠ some s → look (putF o.dst r F) s = look F s := fun s hs => by
      cases hd : o.dst with
      | none => rfl
      | some d => exact look_cons_ne _ _ fun e => hs (by rw [hd, e])
    refine ⟨fun o' ho' => ?_, fun s hs => ?_⟩
    · rcases List.mem_cons.1 ho' with rfl | ho'
      · refine ⟨r, h.congr fun d hd => ?_, fun d hd => ?_⟩
        · rw [i2 d fun q hq' e => (hp.1 q hq' d e).1 hd, hput d fun e => hq _ (by simp) d e hd]
        · rw [i2 d fun q hq' e => (hp.1 q hq' d e).2 hd, hd]
          exact look_cons_self _ _ _
      · exact i1 o' ho'
    · rw [i2 s fun q hq' => hs q (List.mem_cons_of_mem _ hq'), hput s (hs o (by simp))]
def chE (ops : Array Oper) : List Nat → Bool
  | x :: y :: l => edgeB ops y x && chE ops (y :: l)
  | _ => true
theorem chE_mem : ∀ {j : Nat} {l : List Nat} {i : Nat}, chE ops (j :: l) = true → i ∈ l → ∃ x ∈ j :: l, edgeB ops i x = true
  | j, [], i, _, h => by cases h
  | j, y :: l, i, h, hi => by
    simp only [chE, Bool.and_eq_true] at h
    rcases List.mem_cons.1 hi with rfl | hi
    · exact ⟨j, by simp, h.1⟩
    · obtain ⟨x, hx, he⟩ := chE_mem h.2 hi
      exact ⟨x, List.mem_cons_of_mem _ hx, he⟩
theorem chE_tl {j : Nat} {l : List Nat} (h : chE ops (j :: l) = true) : chE ops l = true := by
  cases l with
  | nil => rfl
  | cons y l => simp only [chE, Bool.and_eq_true] at h; exact h.2
/-- what the order of a region must keep: cs are the operations that turn the heap -/
structure Mix (ops : Array Oper) (m : Nat) (cs : List Nat) : Prop where
  size : ops.size = m
  back : ∀ (k : Nat) (o : Oper), ops[k]? = some o → ∀ e ∈ o.after, Region.binds .any e = true → e.on < k
  deps : ∀ (k i : Nat) (o o' : Oper) (d : Tmp), ops[k]? = some o → ops[i]? = some o' → o'.dst = some d → d ∈ o.looksAt ops → (edgeB ops k i = true ∧ (k ∉ cs → i ∉ cs)) ∨ (i ∈ cs ∧ edgeB ops i k = true)
  dist : ∀ (k i : Nat) (o o' : Oper) (d : Tmp), ops[k]? = some o → ops[i]? = some o' → o'.dst = some d → o.dst = some d → k = i
theorem ready_edge {listed : Array Bool} {i x : Nat} (hi : i ∈ Region.ready .any ops listed) (he : edgeB ops i x = true) : listed.getD x true = false → False := by
  obtain ⟨_, o, ho, hall⟩ := mem_ready.1 hi
  obtain ⟨o', ho', e, h1, h2, h3⟩ := edgeB_spec he
  rw [ho] at ho'
  cases ho'
  have := hall e h1 h2
  rw [h3] at this
  intro h
  rcases Nat.lt_or_ge x listed.size with hlt | hge
  · simp [hlt] at this h
    rw [this] at h
    cases h
  · simp [Array.getElem?_eq_none hge] at this
theorem closed_edge {listed : Array Bool} (hc : Closed ops listed) {i k : Nat} (hi : listed.getD i true = true) (him : i < listed.size) (hk : k < listed.size) (he : edgeB ops i k = true) (hun : listed.getD k true = false) : False := by
  obtain ⟨o, ho, e, h1, h2, h3⟩ := edgeB_spec he
  have := hc i o ho (by simpa [him] using hi) e h1 h2
  rw [h3] at this
  simp [hk] at this hun
  rw [this] at hun
  cases hun
theorem lets_only {Q1 Q2 : Exit → Act → World → Prop} (h : LetsOut (OnlyN Q1)) : LetsOut (OnlyN Q2) := by
  obtain ⟨a, w, h⟩ := h
  exact h.elim
theorem wp_only {o : Oper} {a : Act} {w : World} {K K' : Act → World → Prop} {Q1 Q2 : Exit → Act → World → Prop} (h : ∀ a w, K a w → K' a w) (hh : o.wp P a w K (OnlyN Q1)) : o.wp P a w K' (OnlyN Q2) := by
  unfold Oper.wp at *
  generalize (execOp a.eval o).run P w = r at *
  cases r with
  | ok n w' =>
    cases n <;> simp only [Oper.upon] at hh ⊢ <;>
      first
        | exact h _ _ hh
        | exact Calls.mono hh (fun e w'' he => by cases e <;> first | exact h _ _ he | exact lets_only he | exact he.elim)
        | exact Rows.mono hh (fun _ _ he => h _ _ he)
  | halt x w' => cases x <;> simp only [Oper.upon] at hh ⊢ <;> exact hh.elim
theorem wpOp_one {i : Nat} {o : Oper} {a : Act} {w : World} {K' : Act → World → Prop} {Q1 Q2 : Exit → Act → World → Prop} (ho : ops[i]? = some o) (hK : ∀ a w, Q1 .normal a w → K' a w) (h : wpList P ops (OnlyN Q1) [o] a w) : wpOp P ops (OnlyN Q2) i K' a w := by
  unfold wpOp
  simp only [ho]
  unfold wpList at h
  split at h
  · rename_i hw
    rw [if_pos hw]
    exact h.imp (wp_only fun a w h => hK a w h) (fun h => ⟨h.1, lets_only h.2⟩)
  · rename_i hw
    rw [if_neg hw]
    exact hK _ _ h
theorem min_unl {listed : Array Bool} : ∀ i, listed.getD i true = false → ∃ j, j ≤ i ∧ listed.getD j true = false ∧ ∀ k, k < j → listed.getD k true = true := by
  intro i
  induction i using Nat.strongRecOn with
  | _ i ih =>
    intro h
    by_cases h' : ∃ k, k < i ∧ listed.getD k true = false
    · obtain ⟨k, hk, hl⟩ := h'
      obtain ⟨j, a, b, e⟩ := ih k hk hl
      exact ⟨j, by omega, b, e⟩
    · exact ⟨i, Nat.le_refl _, h, fun k hk => by
        cases hb : listed.getD k true with
        | true => rfl
        | false => exact absurd ⟨k, hk, hb⟩ h'⟩
theorem put_ne {d : Option Tmp} {r : AV} {s : Tmp} (h : d ≠ some s) : look (putF d r F) s = look F s := by
  cases d with
  | none => rfl
  | some d => exact look_cons_ne _ _ fun e => h (by rw [e])
theorem put_eq {d : Option Tmp} {r : AV} {s : Tmp} (h : look G s = look F s) : look (putF d r G) s = look (putF d r F) s := by
  cases d with
  | none => exact h
  | some d =>
    by_cases e : d = s
    · subst e; simp [putF, look_cons_self]
    · simp [putF, look_cons_ne _ _ e, h]
theorem wpAny_mix {m : Nat} {K : Fr → List Ent → Prop} {cs0 : List Nat} {Ff : Fr} (hM : Mix ops m cs0)
    (hK : ∀ F L H w a, K F L → St c H w L → Fit H n F a → wpList P ops (OnlyN Q) [] a w)
    (hfl : ∀ i o, ops[i]? = some o → i ∉ cs0 → ∃ r, YieldsA P c n L0 ops o Ff r ∧ ∀ d, o.dst = some d → look Ff d = some r) :
    ∀ (fuel : Nat) (listed : Array Bool) (cs : List Nat) (F G : Fr) (L : List Ent) (H : Cells) (w : World) (a : Act), listed.size = m → Closed ops listed → unl m listed = fuel →
      (∀ i ∈ cs, listed.getD i true = false) → (∀ i ∈ cs0, i ∈ cs ∨ listed.getD i true = true) → (∀ i ∈ cs, i ∈ cs0) → cs.Nodup → chE ops cs = true → Kx P c n ops L0 K cs F L → L0.Sublist L →
      (∀ s, (∀ i o, i ∈ cs0 → ops[i]? = some o → listed.getD i true = true → o.dst ≠ some s) → look F s = look Ff s) →
      (∀ s, (∀ i o, ops[i]? = some o → listed.getD i true = false → i ∉ cs0 → o.dst ≠ some s) → look G s = look F s) →
      St c H w L → Fit H n G a → wpAny P .any ops (OnlyN Q) fuel listed a w := by
  intro fuel
  induction fuel with
  | zero =>
    intro listed cs F G L H w a hsz hc hu h1 h2 h3 hn hch hk hsub hFf hG hst hF
    have hz := unl_zero hu
    have hlt : ∀ {i : Nat} {o : Oper}, ops[i]? = some o → i < m := fun ho => by rw [← hM.size]; exact (Array.getElem?_eq_some_iff.1 ho).1
    cases hk with
    | cons ho R hs hl hk =>
      have := hz _ (hlt ho)
      rw [h1 _ (by simp)] at this
      cases this
    | nil hk =>
      refine ⟨?_, hK F L H w a hk hst (hF.weak fun s x hx => ?_)⟩
      · rw [List.eq_nil_iff_forall_not_mem]
        intro i hi
        obtain ⟨g1, o, ho, _⟩ := mem_ready.1 hi
        rw [hz i (hlt ho)] at g1
        cases g1
      · rw [hG s fun i o ho hl _ => by rw [hz i (hlt ho)] at hl; cases hl]
        exact hx
  | succ fuel ih =>
    intro listed cs F G L H w a hsz hc hu h1 h2 h3 hn hch hk hsub hFf hG hst hF
    refine ⟨fun h0 => ?_, fun i hi => ?_⟩
    · exfalso
      obtain ⟨i, hi, hl⟩ := unl_pos (k := m) (listed := listed) (by omega)
      obtain ⟨j, g1, g2, g3⟩ := min_unl i hl
      have hjm : j < ops.size := by have := hM.size; omega
      have hj : j ∈ Region.ready .any ops listed := mem_ready.2 ⟨g2, ops[j], Array.getElem?_eq_getElem hjm, fun e he hb => by
        have hlt := hM.back j _ (Array.getElem?_eq_getElem hjm) e he hb
        have := g3 e.on hlt
        have hel : e.on < listed.size := by omega
        simp [hel] at this ⊢
        exact this⟩
      rw [h0] at hj
      cases hj
    obtain ⟨hun, o, ho, _⟩ := mem_ready.1 hi
    have him : i < m := by rw [← hM.size]; exact (Array.getElem?_eq_some_iff.1 ho).1
    have hil : i < listed.size := by omega
    have hus := unl_set hil hun m
    rw [if_pos him] at hus
    have hag : ∀ d, d ∈ o.looksAt ops → look F d = look G d := fun d hd => (hG d fun i' o' ho' hl' hn' he => (hM.deps i i' o o' d ho ho' he hd).elim (fun h => ready_edge hi h.1 hl') (fun h => hn' h.1)).symm
    by_cases hic : i ∈ cs0
    · have hics : i ∈ cs := (h2 i hic).resolve_right (by rw [hun]; simp)
      cases hk with
      | nil => cases hics
      | @cons j rest o' _ _ ho' R hs hl hk =>
        have e : j = i := by
          rcases List.mem_cons.1 hics with e | hr
          · exact e.symm
          · obtain ⟨x, hx, he⟩ := chE_mem hch hr
            exact (ready_edge hi he (h1 x hx)).elim
        subst e
        rw [ho] at ho'
        cases ho'
        refine wpOp_one ho (Q1 := fun _ a' w' => wpAny P .any ops (OnlyN Q) fuel (listed.setIfInBounds j true) a' w') (fun _ _ h => h) ((hs G _ hag fun r L' hR => Lx.nil ⟨fun H' w' a' hst' hF' => ?_⟩).out H w a hst hF)
        refine ih _ rest (putF o.dst r F) (putF o.dst r G) L' H' w' a' (by simpa using hsz) (hc.set hi) (by omega) (fun x hx => ?_) (fun x hx => ?_) (fun x hx => h3 x (List.mem_cons_of_mem _ hx)) (List.nodup_cons.1 hn).2 (chE_tl hch) (hk r L' hR) (hl r L' hR) (fun s hs' => ?_) (fun s hs' => ?_) hst' hF'
        · rw [getD_set_ne true (fun e => (List.nodup_cons.1 hn).1 (by rw [e]; exact hx))]
          exact h1 x (List.mem_cons_of_mem _ hx)
        · by_cases e : j = x
          · right
            subst e
            simp [hil]
          · rcases h2 x hx with h | h
            · rcases List.mem_cons.1 h with h | h
              · exact absurd h.symm e
              · exact .inl h
            · right
              rw [getD_set_ne true e]
              exact h
        · rw [put_ne (hs' j o hic ho (by simp [hil]))]
          exact hFf s fun i' o' hi' ho' hl' => hs' i' o' hi' ho' (by
            by_cases e : j = i'
            · subst e; simp [hil]
            · rw [getD_set_ne true e]; exact hl')
        · exact put_eq (hG s fun i' o' ho' hl' hn' => hs' i' o' ho' (by rw [getD_set_ne true (fun e => hn' (by rw [← e]; exact hic))]; exact hl') hn')
    · obtain ⟨r, hy, hd⟩ := hfl i o ho hic
      have hy' : YieldsA P c n L ops o G r := (hy.sub hsub).congr fun d hd' => by
        rw [← hag d hd']
        exact (hFf d fun i' o' hi' ho' hl' he => (hM.deps i i' o o' d ho ho' he hd').elim (fun h => h.2 hic hi') (fun h => closed_edge hc hl' (by have := (Array.getElem?_eq_some_iff.1 ho').1; have := hM.size; omega) hil h.2 hun)).symm
      have hnext : ∀ H' w' v, H.le H' → St c H' w' L → Rel H' r v → wpAny P .any ops (OnlyN Q) fuel (listed.setIfInBounds i true) (a.put o.dst v) w' := fun H' w' v hle hs' hr => by
        refine ih _ cs F (putF o.dst r G) L H' w' _ (by simpa using hsz) (hc.set hi) (by omega) (fun x hx => ?_) (fun x hx => ?_) h3 hn hch hk hsub (fun s hs'' => hFf s fun i' o' hi' ho' hl' => hs'' i' o' hi' ho' (by rw [getD_set_ne true (fun e => hic (by rw [e]; exact hi'))]; exact hl')) (fun s hs'' => ?_) hs' ((hF.mono hle).put hr o.dst)
        · rw [getD_set_ne true (fun e => hic (by rw [e]; exact h3 x hx))]
          exact h1 x hx
        · rcases h2 x hx with h | h
          · exact .inl h
          · right
            rw [getD_set_ne true (fun e => hic (by rw [e]; exact hx))]
            exact h
        · by_cases e : o.dst = some s
          · rw [hFf s fun i' o' hi' ho' _ he => hic (by rw [← hM.dist i' i o' o s ho' ho e he]; exact hi'), hd s e, e]
            exact look_cons_self _ _ _
          · rw [put_ne e]
            refine hG s fun i' o' ho' hl' hn' => ?_
            by_cases e' : i = i'
            · subst e'
              rw [ho] at ho'
              cases ho'
              exact e
            · exact hs'' i' o' ho' (by rw [getD_set_ne true e']; exact hl') hn'
      unfold wpOp
      simp only [ho]
      rcases hy'.cases with ⟨_, hw, hg, hrr⟩ | ⟨hw, hrr⟩
      · rw [if_pos (wanted_fit hF.size hF.rel hw)]
        exact .inl (oper_wp_grows hst (hg.out H w a.eval hst (hF.reads _) o.dst o.pos o.after o.guard) fun H' w' v hl hs' hr => hnext H' w' v hl hs' (hrr _ _ hr))
      · rw [if_neg (by rw [wanted_fit hF.size hF.rel hw]; simp)]
        exact hnext H w undef (Cells.le_refl _) hst (hrr _)
def ascB : List Nat → Bool
  | x :: y :: l => Nat.blt x y && ascB (y :: l)
  | _ => true
theorem ascB_pw : ∀ {l : List Nat}, ascB l = true → l.Pairwise (· < ·)
  | [], _ => .nil
  | [_], _ => List.pairwise_singleton _ _
  | x :: y :: l, h => by
    simp only [ascB, Bool.and_eq_true] at h
    have ih := ascB_pw h.2
    have hxy : x < y := Nat.le_of_ble_eq_true h.1
    refine List.pairwise_cons.2 ⟨fun z hz => ?_, ih⟩
    rcases List.mem_cons.1 hz with rfl | hz
    · exact hxy
    · exact Nat.lt_trans hxy ((List.pairwise_cons.1 ih).1 z hz)
def mixB (ops : Array Oper) (m : Nat) (cs : List Nat) : Bool :=
  (List.range m).all fun k => match ops[k]? with
    | none => true
    | some o => o.after.all (fun e => !Region.binds .any e || Nat.blt e.on k) && (List.range m).all fun i => match (ops[i]?).bind (·.dst) with
      | none => true
      | some d => (!(o.looksAt ops).contains d || (edgeB ops k i && (cs.contains k || !cs.contains i)) || (cs.contains i && edgeB ops i k)) && (!(o.dst == some d) || Nat.beq k i)
theorem mix_of {m : Nat} {cs : List Nat} (hs : ops.size = m) (h : mixB ops m cs = true) : Mix ops m cs := by
  have hlt : ∀ {i : Nat} {o : Oper}, ops[i]? = some o → i < m := fun ho => by rw [← hs]; exact (Array.getElem?_eq_some_iff.1 ho).1
  unfold mixB at h
  rw [List.all_eq_true] at h
  have key : ∀ (k i : Nat) (o o' : Oper) (d : Tmp), ops[k]? = some o → ops[i]? = some o' → o'.dst = some d → ((!(o.looksAt ops).contains d || (edgeB ops k i && (cs.contains k || !cs.contains i)) || (cs.contains i && edgeB ops i k)) && (!(o.dst == some d) || Nat.beq k i)) = true := fun k i o o' d hk hi hd => by
    have := h k (List.mem_range.2 (hlt hk))
    simp only [hk, Bool.and_eq_true] at this
    have := List.all_eq_true.1 this.2 i (List.mem_range.2 (hlt hi))
    simpa only [hi, Option.bind_some, hd] using this
  refine ⟨hs, fun k o hk e he hb => ?_, fun k i o o' d hk hi hd hm => ?_, fun k i o o' d hk hi hd he => ?_⟩
  · have := h k (List.mem_range.2 (hlt hk))
    simp only [hk, Bool.and_eq_true] at this
    have := Array.all_eq_true_iff_forall_mem.1 this.1 e he
    simp only [hb, Bool.not_true, Bool.false_or] at this
    exact Nat.le_of_ble_eq_true this
  · have := key k i o o' d hk hi hd
    simp only [Bool.and_eq_true, Bool.or_eq_true, Bool.not_eq_true', List.contains_eq_mem, decide_eq_false_iff_not, decide_eq_true_eq] at this
    rcases this.1 with (h' | h') | h'
    · exact absurd hm h'
    · exact .inl ⟨h'.1, fun hn => h'.2.resolve_left hn⟩
    · exact .inr h'
  · have := key k i o o' d hk hi hd
    simp only [Bool.and_eq_true, Bool.or_eq_true, Bool.not_eq_true', he, beq_self_eq_true, Bool.true_eq_false, false_or] at this
    exact Nat.eq_of_beq_eq_true this.2
def partB (ops : Array Oper) (m : Nat) (fs cs : List Nat) : Bool := ascB fs && ascB cs && chE ops cs && (fs.all fun i => Nat.blt i m && !cs.contains i) && (cs.all fun i => Nat.blt i m) && (List.range m).all fun i => cs.contains i || fs.contains i
theorem Cx.anyK {id : Nat} {l : List Oper} {m : Nat} (fs cs : List Nat) (L0 : List Ent) (hsub : L0.Sublist L) (hm : P.follows .mixedOrders = true) (hl : l.length = m) (hd : l.all (fun o => noDef o.op) = true)
    (hB : mixB l.toArray m cs = true) (hC : partB l.toArray m fs cs = true)
    (h : Ox P c n l.toArray (fun Ff => Kx P c n l.toArray L0 (fun F L' => Lx P c n l.toArray Q [] F L') cs Ff L) (fs.map fun i => l.getD i default) F L0) : Cx P c n (.region id l.toArray true) Q F L :=
  ⟨fun H w a hs hF _ => by
    have hsz : l.toArray.size = m := by simpa using hl
    have hM := mix_of hsz hB
    simp only [partB, Bool.and_eq_true, List.all_eq_true, List.mem_range, Bool.or_eq_true, Bool.not_eq_true', List.contains_eq_mem, decide_eq_false_iff_not, decide_eq_true_eq] at hC
    obtain ⟨⟨⟨⟨⟨c1, c2⟩, c3⟩, c4⟩, c6⟩, c5⟩ := hC
    refine wpIn_of_any hd hm ?_
    obtain ⟨Ff, h1, h2⟩ := h.out
    have hget : ∀ i ∈ fs, l.toArray[i]? = some (l.getD i default) := fun i hi => by
      have : i < l.length := by rw [hl]; exact Nat.le_of_ble_eq_true (c4 i hi).1
      simp [this]
    obtain ⟨f1, f2⟩ := h1.full (by
        rw [List.pairwise_map]
        refine (List.Pairwise.and_mem.1 (ascB_pw c1)).imp ?_
        rintro i j ⟨hi, hj, hij⟩ d hd
        refine ⟨fun hm => ?_, fun he => ?_⟩
        · have := ((hM.deps i j _ _ d (hget i hi) (hget j hj) hd hm).resolve_right fun h => (c4 j hj).2 h.1).1
          obtain ⟨o, ho, e, e1, e2, e3⟩ := edgeB_spec this
          have := hM.back i o ho e e1 e2
          omega
        · have := hM.dist i j _ _ d (hget i hi) (hget j hj) hd he
          omega) (fun o ho d hd hm => by
        obtain ⟨i, hi, rfl⟩ := List.mem_map.1 ho
        have := ((hM.deps i i _ _ d (hget i hi) (hget i hi) hd hm).resolve_right fun h => (c4 i hi).2 h.1).1
        obtain ⟨o, ho, e, e1, e2, e3⟩ := edgeB_spec this
        have := hM.back i o ho e e1 e2
        omega)
    have hfl : ∀ i o, l.toArray[i]? = some o → i ∉ cs → i ∈ fs ∧ o = l.getD i default := fun i o ho hn => by
      have him : i < m := by rw [← hsz]; exact (Array.getElem?_eq_some_iff.1 ho).1
      have hi := (c5 i him).resolve_left hn
      refine ⟨hi, ?_⟩
      rw [hget i hi] at ho
      exact (Option.some.inj ho).symm
    have hun : ∀ k, k ≤ m → unl k (Array.replicate m false) = k := by
      intro k
      induction k with
      | zero => intro _; rfl
      | succ k ih =>
        intro hk
        have h3 := ih (by omega)
        simp only [unl, h3]
        rw [if_pos (by simp [show k < m by omega])]
    rw [hsz]
    have := wpAny_mix (P := P) (Q := Q) (K := fun F L' => Lx P c n l.toArray Q [] F L') (Ff := Ff) hM (fun F L H w a k hst hF => k.out H w a hst hF)
      (fun i o ho hn => by
        obtain ⟨hi, rfl⟩ := hfl i o ho hn
        exact f1 _ (List.mem_map.2 ⟨i, hi, rfl⟩)) m (Array.replicate m false) cs Ff F L H _ a (by simp) (fun k o ho hk => by simp [Array.getElem?_replicate] at hk; split at hk <;> simp_all) (hun m (Nat.le_refl _))
      (fun i hi => by
        have him : i < m := Nat.le_of_ble_eq_true (c6 i hi)
        simp [him]) (fun i hi => .inl hi) (fun i hi => hi) ((ascB_pw c2).imp fun h => Nat.ne_of_lt h) c3 h2 hsub (fun s _ => rfl) (fun s hs' => by
          refine (f2 s fun o ho he => ?_).symm
          obtain ⟨i, hi, rfl⟩ := List.mem_map.1 ho
          have him : i < m := Nat.le_of_ble_eq_true (c4 i hi).1
          exact hs' i _ (hget i hi) (by simp [him]) (c4 i hi).2 he) hs.drew hF
    exact this⟩
/-! rules for the operations that turn the heap -/
theorem look_op {d : Option Tmp} {o : Op} {ty : TypeId} {pos : String} {aft : Array Edge} {g : Option (Nat × Bool)} (hag : ∀ s, s ∈ (⟨d, o, ty, pos, aft, g⟩ : Oper).looksAt ops → look F s = look G s) {x : Operand} (hm : x ∈ o.operands) : oget n F x = oget n G x := by
  cases x with
  | tmp t =>
    simp only [oget]
    rw [hag t (List.mem_append_left _ (List.mem_filterMap.2 ⟨.tmp t, by simpa using hm, rfl⟩))]
  | _ => rfl
variable {K : Fr → List Ent → Prop} {i : Nat} {is : List Nat} {d : Option Tmp} {o : Op} {ty : TypeId} {pos : String} {aft : Array Edge}
theorem Kx.gr {r : AV} (ho : ops[i]? = some ⟨d, o, ty, pos, aft, none⟩) (hsub : L0.Sublist L) (h : Gr P c n o ty F L r) (k : Kx P c n ops L0 K is (putF d r F) L) : Kx P c n ops L0 K (i :: is) F L :=
  .cons ho (fun r' L' => r' = r ∧ L' = L) (fun _ _ hag hk => Lx.gr rfl (h.congr fun _ hm => look_op hag hm) (hk r L ⟨rfl, rfl⟩)) (fun _ _ e => by rw [e.2]; exact hsub) (fun _ _ e => by obtain ⟨rfl, rfl⟩ := e; exact k)
theorem ogets_look {xs : List Operand} (h : ∀ x ∈ xs, oget n F x = oget n G x) : ogets n F xs = ogets n G xs := by
  induction xs with
  | nil => rfl
  | cons x xs ih =>
    simp only [ogets]
    rw [h x (by simp), ih fun y hy => h y (by simp [hy])]
theorem Kx.call {f : FuncId} {x : Operand} {xs : List Operand} {as' as : List AV} {ts : Array TypeId} {Φ : AV → List Ent → Prop} (ho : ops[i]? = some ⟨d, .call ⟨.value x, xs.toArray, ts⟩, ty, pos, aft, none⟩) (hsub : L0.Sublist L)
    (hf : EntersT P f) (hx : oget n F x = some (.v (.func (.func f) #[] #[]))) (hv : ogets n F xs = some as') (hsb : SbL L as' as) (hc : FnE P f as Φ) (k : ∀ a E, Φ a E → Kx P c n ops L0 K is (putF d a F) (E ++ L)) : Kx P c n ops L0 K (i :: is) F L :=
  .cons ho (fun r L' => ∃ E, Φ r E ∧ L' = E ++ L) (fun _ _ hag hk => Lx.call hf rfl (by rw [← look_op hag (by simp [Op.operands, Call.operands])]; exact hx) (by rw [← ogets_look fun y hy => look_op hag (by simp [Op.operands, Call.operands, hy])]; exact hv) hsb hc fun a E h => hk a _ ⟨E, h, rfl⟩)
    (fun _ _ ⟨E, _, e⟩ => by rw [e]; exact hsub.trans (List.sublist_append_right _ _)) (fun r _ ⟨E, h, e⟩ => by rw [e]; exact k r E h)
theorem Kx.append {t e : TypeId} {size bytes q : Nat} {z : Bool} {s x : Operand} {v : Value} {a : AV} {xs ys : List AV} (ho : ops[i]? = some ⟨d, .call ⟨.builtin .append, #[s, x], #[t, t]⟩, ty, pos, aft, none⟩) (hap : ApT P t e size bytes) (hs : oget n F s = some (.v v)) (hx : oget n F x = some a)
    (j : Nat) (hi : L[j]? = some (.row v e size q z xs)) (hsb : Sb L a (.sl size ys)) (h1 : (ys.flatMap AV.cells).all AV.one = true) (hb : (xs.length + ys.length) * bytes ≤ 140737488355328)
    (hsub : ∀ v', L0.Sublist (L.set j (.row v' e size q false (xs ++ ys)))) (k : ∀ v', Kx P c n ops L0 K is (putF d (.v v') F) (L.set j (.row v' e size q false (xs ++ ys)))) : Kx P c n ops L0 K (i :: is) F L :=
  .cons ho (fun r L' => ∃ v', r = .v v' ∧ L' = L.set j (.row v' e size q false (xs ++ ys))) (fun _ _ hag hk => Lx.append hap rfl (by rw [← look_op hag (by simp [Op.operands, Call.operands])]; exact hs) (by rw [← look_op hag (by simp [Op.operands, Call.operands])]; exact hx) j hi hsb h1 hb fun v' => hk _ _ ⟨v', rfl, rfl⟩)
    (fun _ _ ⟨v', _, e⟩ => by rw [e]; exact hsub v') (fun _ _ ⟨v', e1, e2⟩ => by rw [e1, e2]; exact k v')
/-- ghost steps -/
theorem Kx.frzR (j : Nat) {v : Value} {t : TypeId} {size q : Nat} {z : Bool} {xs : List AV} (hL : L[j]? = some (.row v t size q z xs)) (k : Kx P c n ops L0 K (i :: is) F (L.set j (.row v t size xs.length true xs))) : Kx P c n ops L0 K (i :: is) F L := by
  cases k with
  | cons ho R hs hl hk => exact .cons ho R (fun G Q h1 h2 => Lx.frzR j hL (hs G Q h1 h2)) hl hk
theorem one_ints : ∀ l : List Int, ((l.map I).flatMap AV.cells).all AV.one = true
  | [] => rfl
  | x :: l => by rw [List.map_cons, List.flatMap_cons, List.all_append, one_ints l]; rfl
end
end Go.E2
