/-
  The engine, second make, part E: regions whose order is open.
  Conditions: none beyond the premises of each rule.
-/
import Derived.Test.YtlnokdkhglmogaaGreatE3D
namespace Go.E2
open Go.RowKit
section
variable {P : Program} {c : Ctx} {n : Cfg} {Q : Exit → Act → World → Prop} {F G : Fr} {L : List Ent} {ops : Array Oper}

def FEq (F G : Fr) : Prop := ∀ s, look F s = look G s
theorem FEq.oget (h : FEq F G) (x : Operand) : oget n F x = oget n G x := by cases x <;> simp [E2.oget, h _]
theorem FEq.put (h : FEq F G) (d : Option Tmp) (r : AV) : FEq (putF d r F) (putF d r G) := fun s => by
  cases d with
  | none => exact h s
  | some d =>
    by_cases e : d = s
    · subst e; simp [putF, look_cons_self]
    · simp [putF, look_cons_ne _ _ e, h s]
theorem FEq.symm (h : FEq F G) : FEq G F := fun s => (h s).symm
theorem put_comm {d e : Option Tmp} (hne : ∀ x, d = some x → e ≠ some x) (r q : AV) (F : Fr) : FEq (putF d r (putF e q F)) (putF e q (putF d r F)) := fun s => by
  cases d with
  | none => rfl
  | some d =>
    cases e with
    | none => rfl
    | some e =>
      have hde : d ≠ e := fun h => hne d rfl (by rw [h])
      simp only [putF]
      by_cases h1 : d = s
      · subst h1
        rw [look_cons_self, look_cons_ne _ _ (Ne.symm hde), look_cons_self]
      · rw [look_cons_ne _ _ h1]
        by_cases h2 : e = s
        · subst h2; rw [look_cons_self, look_cons_self]
        · rw [look_cons_ne _ _ h2, look_cons_ne _ _ h2, look_cons_ne _ _ h1]
theorem Gr.congr {o : Op} {ty : TypeId} {r : AV} (h : Gr P c n o ty F L r) (hx : ∀ x ∈ o.operands, oget n F x = oget n G x) : Gr P c n o ty G L r :=
  ⟨fun H w ρ hs hr d pos aft g => h.out H w ρ hs (fun x hm av hav => hr x hm av (by rw [← hx x hm]; exact hav)) d pos aft g⟩
theorem want_congr {g : Option (Nat × Bool)} (h : ∀ j b, g = some (j, b) → ∀ d, gslot ops j = some d → look F d = look G d) : wantB ops n F g = wantB ops n G g := by
  unfold wantB wantF
  cases g with
  | none => rfl
  | some jb =>
    obtain ⟨j, b⟩ := jb
    simp only
    cases hd : gslot ops j with
    | none => rfl
    | some d => simp only [h j b rfl d hd]
/-- operation o leaves r in its slot -/
def YieldsA (P : Program) (c : Ctx) (n : Cfg) (L : List Ent) (ops : Array Oper) (o : Oper) (F : Fr) (r : AV) : Prop :=
  ∃ b q, wantB ops n F o.guard = some b ∧ (b = true → Gr P c n o.op o.type F L q) ∧ ((b = true ∧ r = q) ∨ (b = false ∧ r = .v undef) ∨ r = .opt b q)
theorem YieldsA.run {o : Oper} {r : AV} (h : wantB ops n F o.guard = some true ∧ Gr P c n o.op o.type F L r) : YieldsA P c n L ops o F r := ⟨true, r, h.1, fun _ => h.2, .inl ⟨rfl, rfl⟩⟩
theorem YieldsA.not {o : Oper} {r : AV} (h : wantB ops n F o.guard = some false ∧ r = .v undef) : YieldsA P c n L ops o F r := ⟨false, r, h.1, fun e => (by cases e), .inr (.inl ⟨rfl, h.2⟩)⟩
theorem YieldsA.cases {o : Oper} {r : AV} (h : YieldsA P c n L ops o F r) : (∃ q, wantB ops n F o.guard = some true ∧ Gr P c n o.op o.type F L q ∧ ∀ H v, Rel H q v → Rel H r v) ∨ (wantB ops n F o.guard = some false ∧ ∀ H, Rel H r undef) := by
  obtain ⟨b, q, h1, h2, h3⟩ := h
  cases b with
  | true =>
    refine .inl ⟨q, h1, h2 rfl, fun H v hr => ?_⟩
    rcases h3 with ⟨_, rfl⟩ | ⟨e, _⟩ | rfl
    · exact hr
    · cases e
    · exact .opt (fun _ => hr) (fun e => by cases e)
  | false =>
    refine .inr ⟨h1, fun H => ?_⟩
    rcases h3 with ⟨e, _⟩ | ⟨_, rfl⟩ | rfl
    · cases e
    · exact .v _
    · exact .opt (fun e => by cases e) (fun _ => rfl)
theorem YieldsA.congr {o : Oper} {r : AV} (h : YieldsA P c n L ops o F r) (hx : ∀ d, d ∈ o.looksAt ops → look F d = look G d) : YieldsA P c n L ops o G r := by
  have hw : wantB ops n F o.guard = wantB ops n G o.guard := want_congr fun j b hg d hd => hx d (by
    unfold Oper.looksAt
    unfold gslot at hd
    refine List.mem_append_right _ ?_
    simp [hg, hd])
  obtain ⟨b, q, h1, h2, h3⟩ := h
  refine ⟨b, q, by rw [← hw]; exact h1, fun e => (h2 e).congr fun x hm => ?_, h3⟩
  cases x with
  | tmp t =>
    simp only [oget]
    rw [hx t (List.mem_append_left _ (List.mem_filterMap.2 ⟨.tmp t, by simpa using hm, rfl⟩))]
  | _ => rfl
theorem YieldsA.put {o : Oper} {r q : AV} {d : Option Tmp} (h : YieldsA P c n L ops o F r) (hd : ∀ x, d = some x → x ∉ o.looksAt ops) : YieldsA P c n L ops o (putF d q F) r :=
  h.congr fun s hs => by
    cases d with
    | none => rfl
    | some d => simp only [putF]; rw [look_cons_ne]; intro e; subst e; exact hd d rfl hs
theorem YieldsA.unput {o : Oper} {r q : AV} {d : Option Tmp} (h : YieldsA P c n L ops o (putF d q F) r) (hd : ∀ x, d = some x → x ∉ o.looksAt ops) : YieldsA P c n L ops o F r :=
  h.congr fun s hs => by
    cases d with
    | none => rfl
    | some d => simp only [putF]; rw [look_cons_ne]; intro e; subst e; exact hd d rfl hs
/-- whatever order is picked among the operations below p -/
def wpAnyA (P : Program) (c : Ctx) (n : Cfg) (L : List Ent) (ops : Array Oper) (p : Nat) (K : Fr → Prop) : Nat → Array Bool → Fr → Prop
  | 0, listed, F => (∀ i ∈ Region.ready .any ops listed, p ≤ i) ∧ K F
  | fuel + 1, listed, F => (∃ i, i ∈ Region.ready .any ops listed ∧ i < p) ∧ ∀ i ∈ Region.ready .any ops listed, i < p → ∀ o, ops[i]? = some o → ∃ r, YieldsA P c n L ops o F r ∧ wpAnyA P c n L ops p K fuel (listed.setIfInBounds i true) (putF o.dst r F)
theorem wpAnyA.congr {p : Nat} {K : Fr → Prop} (hK : ∀ F G, FEq F G → K F → K G) : ∀ (fuel : Nat) (listed : Array Bool) (F G : Fr), FEq F G → wpAnyA P c n L ops p K fuel listed F → wpAnyA P c n L ops p K fuel listed G
  | 0, _, F, G, he, h => ⟨h.1, hK F G he h.2⟩
  | fuel + 1, listed, F, G, he, h => ⟨h.1, fun i hi hp o ho => by
    obtain ⟨r, h1, h2⟩ := h.2 i hi hp o ho
    exact ⟨r, h1.congr fun d _ => he d, wpAnyA.congr hK fuel _ _ _ (he.put o.dst r) h2⟩⟩
theorem wpAnyA_first {p i : Nat} {oi : Oper} {v : AV} {K : Fr → Prop} (hK : ∀ F G, FEq F G → K F → K G) (hi : ops[i]? = some oi) (hip : i < p) :
    ∀ (fuel : Nat) (listed : Array Bool) (F : Fr),
      (∀ j oj, ops[j]? = some oj → j ≠ i → listed.getD j true = false → (∀ e ∈ oj.after, Region.binds .any e = true → e.on ≠ i) → oi.apart ops oj = true) →
      i ∈ Region.ready .any ops listed → YieldsA P c n L ops oi F v →
      wpAnyA P c n L ops p K fuel (listed.setIfInBounds i true) (putF oi.dst v F) → wpAnyA P c n L ops p K (fuel + 1) listed F := by
  intro fuel
  induction fuel with
  | zero =>
    intro listed F _ hr hy h
    refine ⟨⟨i, hr, hip⟩, fun j hj hjp o ho => ?_⟩
    by_cases hji : j = i
    · subst hji; rw [hi] at ho; cases ho; exact ⟨v, hy, h⟩
    · have := h.1 j (ready_mono hj hji)
      omega
  | succ fuel ih =>
    intro listed F hfree hr hy h
    refine ⟨⟨i, hr, hip⟩, fun j hj hjp oj hoj => ?_⟩
    by_cases hji : j = i
    · subst hji; rw [hi] at hoj; cases hoj; exact ⟨v, hy, h⟩
    · obtain ⟨u, h1, h2⟩ := h.2 j (ready_mono hj hji) hjp oj hoj
      obtain ⟨hjun, oj', hoj', hall⟩ := mem_ready.1 hj
      rw [hoj] at hoj'
      cases hoj'
      have hnot : ∀ e ∈ oj.after, Region.binds .any e = true → e.on ≠ i := fun e he hb heq => by
        have h1 := hall e he hb
        have h0 := (mem_ready.1 hr).1
        rw [heq] at h1
        rcases Nat.lt_or_ge i listed.size with h' | h'
        · simp [h'] at h0 h1; rw [h0] at h1; cases h1
        · simp [Array.getElem?_eq_none h'] at h1
      obtain ⟨p1, p2, p3⟩ := Oper.apart_spec (hfree j oj hoj hji hjun hnot)
      refine ⟨u, h1.unput p1, ih (listed.setIfInBounds j true) _ ?_ (ready_mono hr (Ne.symm hji)) (hy.put p3) ?_⟩
      · intro k ok hk hki hun hno
        refine hfree k ok hk hki ?_ hno
        by_cases hjk : j = k
        · subst hjk; exact hjun
        · rw [getD_set_ne true hjk] at hun; exact hun
      · rw [Array.setIfInBounds_comm _ _ hji]
        exact wpAnyA.congr hK _ _ _ _ ((put_comm p2 v u F).symm) h2
/-- the lexical run -/
inductive RunA (P : Program) (c : Ctx) (n : Cfg) (L : List Ent) (ops : Array Oper) : List Oper → Fr → Fr → Prop
  | nil {F : Fr} : RunA P c n L ops [] F F
  | cons {o : Oper} {l : List Oper} {F F' : Fr} {r : AV} (h : YieldsA P c n L ops o F r) (t : RunA P c n L ops l (putF o.dst r F) F') : RunA P c n L ops (o :: l) F F'
/-- the lexical order will do for the operations below p -/
def lexTo (ops : Array Oper) (p : Nat) : Nat → Nat → Array Bool → Bool
  | 0, _, listed => (Region.ready .any ops listed).all fun i => Nat.ble p i
  | fuel + 1, k, listed => (Region.ready .any ops listed).contains k && Nat.blt k p && Region.free .any ops listed k && lexTo ops p fuel (k + 1) (listed.setIfInBounds k true)
theorem wpAnyA_lex {p : Nat} {K : Fr → Prop} (hK : ∀ F G, FEq F G → K F → K G) : ∀ (l : List Oper) (k : Nat) (listed : Array Bool) (F F' : Fr), (∀ j, j < l.length → l[j]? = ops[k + j]?) →
    lexTo ops p l.length k listed = true → RunA P c n L ops l F F' → K F' → wpAnyA P c n L ops p K l.length listed F
  | [], _, _, _, _, _, hB, .nil, hk => ⟨fun i hi => by
      simp only [List.length_nil, lexTo, List.all_eq_true] at hB
      exact Nat.le_of_ble_eq_true (hB i hi), hk⟩
  | o :: l, k, listed, F, F', hl, hB, .cons h t, hk => by
    have h0 : ops[k]? = some o := by simpa using (hl 0 (by simp)).symm
    simp only [List.length_cons, lexTo, Bool.and_eq_true] at hB
    obtain ⟨⟨⟨hr, hp⟩, hf⟩, hB'⟩ := hB
    exact wpAnyA_first hK h0 (by simpa [Nat.blt_eq] using hp) l.length listed F (fun j oj => Region.free_spec h0 hf j oj) (by simpa using hr) h
      (wpAnyA_lex hK l (k + 1) _ _ F' (fun j hj => by have := hl (j + 1) (by simpa using hj); simpa [Nat.add_assoc, Nat.add_comm 1 j] using this) hB' t hk)
/-- what is listed is closed -/
def Closed (ops : Array Oper) (listed : Array Bool) : Prop := ∀ k o, ops[k]? = some o → listed.getD k false = true → ∀ e ∈ o.after, Region.binds .any e = true → listed.getD e.on false = true
theorem Closed.set {listed : Array Bool} {i : Nat} (h : Closed ops listed) (hi : i ∈ Region.ready .any ops listed) : Closed ops (listed.setIfInBounds i true) := fun k o ho hk e he hb => by
  by_cases e1 : i = k
  · subst e1
    obtain ⟨_, o', ho', hall⟩ := mem_ready.1 hi
    rw [ho] at ho'
    cases ho'
    exact getD_set_true (hall e he hb)
  · rw [getD_set_ne false e1] at hk
    exact getD_set_true (h k o ho hk e he hb)
def unl : Nat → Array Bool → Nat
  | 0, _ => 0
  | k + 1, a => unl k a + (if a.getD k true = false then 1 else 0)
theorem unl_set {listed : Array Bool} {i : Nat} (hs : i < listed.size) (hu : listed.getD i true = false) : ∀ k, unl k (listed.setIfInBounds i true) + (if i < k then 1 else 0) = unl k listed
  | 0 => by simp [unl]
  | k + 1 => by
    have ih := unl_set hs hu k
    simp only [unl]
    by_cases e : i = k
    · subst e
      rw [if_neg (by simp)] at ih
      simp only [Nat.add_zero] at ih
      have e1 : (if i < i + 1 then 1 else 0) = 1 := if_pos (by omega)
      rw [ih, if_neg (by simp [hs]), e1, if_pos hu]
    · rw [getD_set_ne true e]
      by_cases h : i < k
      · have e1 : (if i < k + 1 then 1 else 0) = 1 := if_pos (by omega)
        rw [if_pos h] at ih
        rw [e1]
        omega
      · have e1 : (if i < k + 1 then 1 else 0) = 0 := if_neg (by omega)
        rw [if_neg h] at ih
        rw [e1]
        omega
theorem unl_pos {listed : Array Bool} : ∀ {k : Nat}, 0 < unl k listed → ∃ i, i < k ∧ listed.getD i true = false
  | 0, h => by simp [unl] at h
  | k + 1, h => by
    simp only [unl] at h
    by_cases e : listed.getD k true = false
    · exact ⟨k, by omega, e⟩
    · rw [if_neg e] at h
      obtain ⟨i, h1, h2⟩ := unl_pos (k := k) (by omega)
      exact ⟨i, by omega, h2⟩
theorem unl_zero {listed : Array Bool} : ∀ {k : Nat}, unl k listed = 0 → ∀ i, i < k → listed.getD i true = true
  | 0, _, i, h => by omega
  | k + 1, h, i, hi => by
    simp only [unl] at h
    by_cases e : listed.getD k true = false
    · rw [if_pos e] at h; omega
    · rcases Nat.lt_or_ge i k with h1 | h1
      · exact unl_zero (k := k) (by omega) i h1
      · have : i = k := by omega
        subst this
        simpa using e
def lst (p m : Nat) : Array Bool := (List.replicate p true ++ List.replicate (m - p) false).toArray
theorem lst_of {listed : Array Bool} {p m : Nat} (hp : p ≤ m) (hs : listed.size = m) (h0 : ∀ i, i < p → listed.getD i true = true) (h1 : ∀ i, p ≤ i → listed.getD i false = false) : listed = lst p m := by
  apply Array.ext
  · simp [lst, hs]; omega
  · intro i h2 h3
    have e : (lst p m)[i] = if i < p then true else false := by
      simp only [lst, List.getElem_toArray]
      rw [List.getElem_append]
      simp only [List.length_replicate]
      split <;> simp
    rw [e]
    by_cases h : i < p
    · have := h0 i h; simp [h2] at this; simp [h, this]
    · have := h1 i (by omega); simp [h2] at this; simp [h, this]
theorem wpAny_of_A {p m : Nat} {Q' : Exit → Act → World → Prop} {K : Fr → Prop} (hm : ops.size = m) (hpm : p ≤ m) (hT : ∀ listed, Closed ops listed → (∃ i, i < p ∧ listed.getD i true = false) → ∀ j ∈ Region.ready .any ops listed, j < p)
    (hK : ∀ F H w a, K F → St c H w L → Fit H n F a → wpAny P .any ops Q' (m - p) (lst p m) a w) :
    ∀ (fuel : Nat) (listed : Array Bool) (F : Fr) (H : Cells) (w : World) (a : Act), listed.size = m → Closed ops listed → unl p listed = fuel → (∀ i, p ≤ i → listed.getD i false = false) → wpAnyA P c n L ops p K fuel listed F → St c H w L → Fit H n F a → wpAny P .any ops Q' (fuel + (m - p)) listed a w
  | 0, listed, F, H, w, a, hs, _, hu, h1, h, hst, hF => by
    rw [Nat.zero_add, lst_of hpm hs (unl_zero hu) h1]
    exact hK F H w a h.2 hst hF
  | fuel + 1, listed, F, H, w, a, hs, hc, hu, h1, h, hst, hF => by
    rw [show fuel + 1 + (m - p) = (fuel + (m - p)) + 1 by omega]
    obtain ⟨⟨i0, hi0, _⟩, hall⟩ := h
    refine ⟨fun h0 => (by rw [h0] at hi0; cases hi0), fun i hi => ?_⟩
    have hip := hT listed hc (unl_pos (by omega)) i hi
    obtain ⟨hun, o, ho, _⟩ := mem_ready.1 hi
    have hil : i < listed.size := by rw [hs, ← hm]; exact (Array.getElem?_eq_some_iff.1 ho).1
    obtain ⟨r, hy, hn⟩ := hall i hi hip o ho
    have hnext : ∀ H' w' v, H.le H' → St c H' w' L → Rel H' r v → wpAny P .any ops Q' (fuel + (m - p)) (listed.setIfInBounds i true) (a.put o.dst v) w' := fun H' w' v hl hs' hr =>
      wpAny_of_A hm hpm hT hK fuel _ _ H' w' _ (by simpa using hs) (hc.set hi) (by have := unl_set hil hun p; rw [if_pos hip] at this; omega) (fun j hj => by rw [getD_set_ne false (by omega)]; exact h1 j hj) hn hs' ((hF.mono hl).put hr o.dst)
    unfold wpOp
    simp only [ho]
    obtain ⟨b, q, hw, hg, h3⟩ := hy
    cases b with
    | true =>
      rw [if_pos (wanted_fit hF.size hF.rel hw)]
      exact .inl (oper_wp_grows hst ((hg rfl).out H w a.eval hst (hF.reads _) o.dst o.pos o.after o.guard) fun H' w' v hl hs' hr => hnext H' w' v hl hs' (by
        rcases h3 with ⟨_, rfl⟩ | ⟨e, _⟩ | rfl
        · exact hr
        · cases e
        · exact .opt (fun _ => hr) (fun e => by cases e)))
    | false =>
      rw [if_neg (by rw [wanted_fit hF.size hF.rel hw]; simp)]
      exact hnext H w undef (Cells.le_refl _) hst (by
        rcases h3 with ⟨e, _⟩ | ⟨_, rfl⟩ | rfl
        · cases e
        · exact .v _
        · exact .opt (fun e => by cases e) (fun _ => rfl))
/-- the tail: one after the other -/
def chainB (ops : Array Oper) : Nat → Nat → Array Bool → Bool
  | 0, _, listed => (Region.ready .any ops listed).isEmpty
  | fuel + 1, k, listed => (Region.ready .any ops listed == [k]) && chainB ops fuel (k + 1) (listed.setIfInBounds k true)
theorem wpAny_chain {Q' : Exit → Act → World → Prop} : ∀ (l : List Oper) (k : Nat) (listed : Array Bool) (a : Act) (w : World), (∀ j, j < l.length → l[j]? = ops[k + j]?) → chainB ops l.length k listed = true → wpList P ops Q' l a w → wpAny P .any ops Q' l.length listed a w
  | [], _, _, _, _, _, hB, h => ⟨by simpa [chainB] using hB, h⟩
  | o :: l, k, listed, a, w, hl, hB, h => by
    have h0 : ops[k]? = some o := by simpa using (hl 0 (by simp)).symm
    simp only [List.length_cons, chainB, Bool.and_eq_true, beq_iff_eq] at hB
    refine ⟨fun h1 => (by rw [hB.1] at h1; cases h1), fun i hi => ?_⟩
    rw [hB.1] at hi
    simp only [List.mem_singleton] at hi
    subst hi
    have hn : ∀ a w, wpList P ops Q' l a w → wpAny P .any ops Q' l.length (listed.setIfInBounds i true) a w := fun a w h => wpAny_chain l (i + 1) _ a w (fun j hj => by have := hl (j + 1) (by simpa using hj); simpa [Nat.add_assoc, Nat.add_comm 1 j] using this) hB.2 h
    unfold wpOp
    simp only [h0]
    unfold wpList at h
    split at h
    · rename_i hw; rw [if_pos hw]; exact h.imp (Oper.wp_mono hn) id
    · rename_i hw; rw [if_neg hw]; exact hn _ _ h
/-- every operation below p is waited for by a later one below p, or by p itself -/
def edgeB (ops : Array Oper) (t i : Nat) : Bool := ((ops[t]?).map fun o => o.after.any fun e => Region.binds .any e && Nat.beq e.on i).getD false
def tailB (ops : Array Oper) (p m : Nat) : Bool :=
  ((List.range p).all fun i => edgeB ops p i || (List.range p).any fun k => Nat.blt i k && edgeB ops k i) && (List.range m).all fun t => Nat.ble t p || edgeB ops t (t - 1)
theorem edgeB_spec {t i : Nat} (h : edgeB ops t i = true) : ∃ o, ops[t]? = some o ∧ ∃ e ∈ o.after, Region.binds .any e = true ∧ e.on = i := by
  unfold edgeB at h
  cases ho : ops[t]? with
  | none => rw [ho] at h; simp at h
  | some o =>
    rw [ho] at h
    simp only [Option.map_some, Option.getD_some] at h
    obtain ⟨e, he, hb⟩ := Array.any_eq_true'.1 h
    simp only [Bool.and_eq_true] at hb
    exact ⟨o, rfl, e, he, hb.1, Nat.eq_of_beq_eq_true hb.2⟩
theorem tail_spec {p m : Nat} (hm : ops.size = m) (h : tailB ops p m = true) (listed : Array Bool) (hc : Closed ops listed) (hu : ∃ i, i < p ∧ listed.getD i true = false) : ∀ j ∈ Region.ready .any ops listed, j < p := by
  simp only [tailB, Bool.and_eq_true, List.all_eq_true, List.mem_range, Bool.or_eq_true, List.any_eq_true] at h
  obtain ⟨h1, h2⟩ := h
  have hof : ∀ i, listed.getD i true = false → listed.getD i false = false := fun i hi => by
    rcases Nat.lt_or_ge i listed.size with hlt | hge
    · simpa [hlt] using hi
    · simp [Array.getElem?_eq_none hge]
  -- p waits for one that is not listed
  have hp : ∃ i, edgeB ops p i = true ∧ listed.getD i false = false := by
    obtain ⟨i, hi, hul⟩ := hu
    have hul := hof i hul
    have : ∀ f i, p - i ≤ f → i < p → listed.getD i false = false → ∃ i, edgeB ops p i = true ∧ listed.getD i false = false := by
      intro f
      induction f with
      | zero => intro i h0 hi _; omega
      | succ f ih =>
        intro i h0 hi hul
        rcases h1 i hi with he | ⟨k, hk, hkb⟩
        · exact ⟨i, he, hul⟩
        · have hik : i < k := by simpa [Nat.blt_eq] using hkb.1
          refine ih k (by omega) (by simpa using hk) ?_
          cases hkl : listed.getD k false with
          | false => rfl
          | true =>
            obtain ⟨o, ho, e, he, hb, heq⟩ := edgeB_spec hkb.2
            have := hc k o ho hkl e he hb
            rw [heq, hul] at this
            cases this
    exact this _ i (Nat.le_refl _) hi hul
  -- none from p on is listed or ready
  have hno : ∀ t, p ≤ t → t < m → listed.getD t false = false ∧ t ∉ Region.ready .any ops listed := by
    intro t
    induction t using Nat.strongRecOn with
    | ind t ih =>
      intro ht htm
      have hedge : ∀ i, edgeB ops t i = true → listed.getD i false = false → listed.getD t false = false ∧ t ∉ Region.ready .any ops listed := fun i he hl => by
        obtain ⟨o, ho, e, hem, hb, heq⟩ := edgeB_spec he
        constructor
        · cases hkl : listed.getD t false with
          | false => rfl
          | true => have := hc t o ho hkl e hem hb; rw [heq, hl] at this; cases this
        · intro hr
          obtain ⟨_, o', ho', hall⟩ := mem_ready.1 hr
          rw [ho] at ho'
          cases ho'
          have := hall e hem hb
          rw [heq, hl] at this
          cases this
      rcases Nat.lt_or_ge p t with hlt | hge
      · rcases h2 t htm with hle | he
        · have := Nat.le_of_ble_eq_true hle; omega
        · exact hedge (t - 1) he (ih (t - 1) (by omega) (by omega) (by omega)).1
      · have : t = p := by omega
        subst this
        obtain ⟨i, he, hl⟩ := hp
        exact hedge i he hl
  intro j hj
  rcases Nat.lt_or_ge j p with h | h
  · exact h
  · obtain ⟨_, o', ho', _⟩ := mem_ready.1 hj
    exact absurd hj (hno j h (by rw [← hm]; exact (Array.getElem?_eq_some_iff.1 ho').1)).2

/-! the rules -/
structure Ox (P : Program) (c : Ctx) (n : Cfg) (ops : Array Oper) (K : Fr → Prop) (l : List Oper) (F : Fr) (L : List Ent) : Prop where
  out : ∃ F', RunA P c n L ops l F F' ∧ K F'
theorem Ox.nil {K : Fr → Prop} (h : K F) : Ox P c n ops K [] F L := ⟨F, .nil, h⟩
variable {d : Option Tmp} {o : Op} {ty : TypeId} {pos : String} {aft : Array Edge} {g : Option (Nat × Bool)} {rest : List Oper}
theorem Ox.gr {K : Fr → Prop} {r : AV} (hg : wantB ops n F g = some true) (h : Gr P c n o ty F L r) (k : Ox P c n ops K rest (putF d r F) L) : Ox P c n ops K (⟨d, o, ty, pos, aft, g⟩ :: rest) F L :=
  let ⟨F', h1, h2⟩ := k.out; ⟨F', .cons (.run ⟨hg, h⟩) h1, h2⟩
theorem Ox.skip {K : Fr → Prop} (hg : wantB ops n F g = some false) (k : Ox P c n ops K rest (putF d (.v undef) F) L) : Ox P c n ops K (⟨d, o, ty, pos, aft, g⟩ :: rest) F L :=
  let ⟨F', h1, h2⟩ := k.out; ⟨F', .cons (.not ⟨hg, rfl⟩) h1, h2⟩
/-- part on a Bool ahead of the region -/
theorem RunA.shadow {l : List Oper} {F' : Fr} (h : RunA P c n L ops l F F') : ∀ {G : Fr}, FEq F G → ∃ G', RunA P c n L ops l G G' ∧ FEq F' G' := by
  induction h with
  | nil => intro G e; exact ⟨G, .nil, e⟩
  | cons h t ih =>
    intro G e
    obtain ⟨G', h1, h2⟩ := ih (e.put _ _)
    exact ⟨G', .cons (h.congr fun d _ => e d) h1, h2⟩
theorem Ox.split {K : Fr → Prop} (hK : ∀ F G, FEq F G → K F → K G) {l : List Oper} (s : Nat) {b : Bool} (hv : look F s = some (.v (.bool b))) (ht : b = true → Ox P c n ops K l ((s, .v (.bool true)) :: F) L) (hf : b = false → Ox P c n ops K l ((s, .v (.bool false)) :: F) L) : Ox P c n ops K l F L := by
  have e : FEq ((s, .v (.bool b)) :: F) F := fun t => by
    by_cases h : s = t
    · subst h; rw [look_cons_self, hv]
    · rw [look_cons_ne _ _ h]
  cases b with
  | true =>
    obtain ⟨F', h1, h2⟩ := (ht rfl).out
    obtain ⟨G', h3, h4⟩ := h1.shadow e
    exact ⟨G', h3, hK _ _ h4 h2⟩
  | false =>
    obtain ⟨F', h1, h2⟩ := (hf rfl).out
    obtain ⟨G', h3, h4⟩ := h1.shadow e
    exact ⟨G', h3, hK _ _ h4 h2⟩
/-- what stands behind the operations below p -/
def Then (P : Program) (c : Ctx) (n : Cfg) (ops : Array Oper) (Q : Exit → Act → World → Prop) (tail : List Oper) (L : List Ent) (F : Fr) : Prop := Lx P c n ops Q tail F L
theorem Then.congr {tail : List Oper} (F G : Fr) (h : FEq F G) (k : Then P c n ops Q tail L F) : Then P c n ops Q tail L G := ⟨fun H w a hs hF => k.out H w a hs (hF.weak fun s x hx => by rw [← h s]; exact hx)⟩
theorem Ox.fin {tail : List Oper} (h : Lx P c n ops Q tail F L) : Ox P c n ops (Then P c n ops Q tail L) [] F L := Ox.nil h
theorem Cx.any {id : Nat} {l : List Oper} {m : Nat} (p : Nat) (hm : P.follows .mixedOrders = true) (hl : l.length = m) (hpm : Nat.ble p m = true) (hd : l.all (fun o => noDef o.op) = true)
    (hlex : lexTo l.toArray p p 0 (lst 0 m) = true) (htail : (Nat.beq p m || tailB l.toArray p m) = true) (hch : chainB l.toArray (m - p) p (lst p m) = true)
    (h : Ox P c n l.toArray (Then P c n l.toArray Q (l.drop p) L) (l.take p) F L) : Cx P c n (.region id l.toArray true) Q F L :=
  ⟨fun H w a hs hF _ => by
    have hpm := Nat.le_of_ble_eq_true hpm
    have hsz : l.toArray.size = m := by simpa using hl
    have hlt : (l.take p).length = p := by simp; omega
    refine wpIn_of_any hd hm ?_
    obtain ⟨F', h1, h2⟩ := h.out
    have hA := wpAnyA_lex (p := p) (K := Then P c n l.toArray Q (l.drop p) L) (fun F G e k => k.congr F G e) (l.take p) 0 (lst 0 m) F F' (fun j hj => by rw [hlt] at hj; rw [List.getElem?_take, if_pos hj]; simp) (by rw [hlt]; exact hlex) h1 h2
    rw [hlt] at hA
    have e0 : lst 0 m = Array.replicate m false := by simp [lst]
    have := wpAny_of_A (m := m) (Q' := OnlyN Q) hsz hpm (fun listed hc hu j hj => by
        rcases Bool.or_eq_true _ _ ▸ htail with he | ht
        · have := Nat.eq_of_beq_eq_true he
          obtain ⟨_, o', ho', _⟩ := mem_ready.1 hj
          rw [this, ← hsz]
          exact (Array.getElem?_eq_some_iff.1 ho').1
        · exact tail_spec hsz ht listed hc hu j hj)
      (fun F H w a k hs hF => by
        have hw := k.out H w a hs hF
        have := wpAny_chain (l.drop p) p (lst p m) a w (fun j hj => by simp) (by rw [List.length_drop, hl]; exact hch) hw
        rwa [List.length_drop, hl] at this) p (lst 0 m) F H _ a (by simp [lst]) (fun k o ho hk => by rw [e0] at hk; simp [Array.getElem?_replicate] at hk; split at hk <;> simp_all) (by
          rw [e0]
          have : ∀ k, k ≤ m → unl k (Array.replicate m false) = k := by
            intro k
            induction k with
            | zero => intro _; rfl
            | succ k ih =>
              intro hk
              have h3 := ih (by omega)
              simp only [unl, h3]
              rw [if_pos (by simp [show k < m by omega])]
          exact this p hpm) (fun i _ => by rw [e0]; simp [Array.getElem?_replicate]; split <;> simp) hA hs.drew hF
    rw [show p + (m - p) = m by omega, e0] at this
    rw [hsz]
    exact this⟩
end
end Go.E2
