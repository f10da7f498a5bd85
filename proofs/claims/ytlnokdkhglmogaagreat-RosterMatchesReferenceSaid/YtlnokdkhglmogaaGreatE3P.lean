/-
  The engine, second make, part P: regions of open order in which some operations turn the local heap, one after the other.
  Conditions: none beyond the premises of each rule.
-/
import Derived.Test.YtlnokdkhglmogaaGreatE3G
namespace Go.E2
open Go.RowKit
section
variable {P : Program} {c : Ctx} {n : Cfg} {Q : Exit → Act → World → Prop} {F G : Fr} {L L0 : List Ent} {ops : Array Oper}
/-- the operations that turn the heap, in their order; F holds what all others leave -/
inductive Kx (P : Program) (c : Ctx) (n : Cfg) (ops : Array Oper) (L0 : List Ent) (K : Fr → List Ent → Prop) : List Nat → Fr → List Ent → Prop
  | nil {F : Fr} {L : List Ent} (h : K F L) : Kx P c n ops L0 K [] F L
  | cons {i : Nat} {is : List Nat} {o : Oper} {F : Fr} {L : List Ent} (ho : ops[i]? = some o) (R : AV → List Ent → Prop)
      (hs : ∀ G Q, (∀ d, d ∈ o.looksAt ops → look F d = look G d) → (∀ r L', R r L' → Lx P c n ops Q [] (putF o.dst r G) L') → Lx P c n ops Q [o] G L)
      (hl : ∀ r L', R r L' → L0.Sublist L') (hk : ∀ r L', R r L' → Kx P c n ops L0 K is (putF o.dst r F) L') : Kx P c n ops L0 K (i :: is) F L
theorem YieldsA.sub {o : Oper} {r : AV} (h : YieldsA P c n L0 ops o F r) (hs : L0.Sublist L) : YieldsA P c n L ops o F r :=
  by
  obtain ⟨b, q, h1, h2, h3⟩ := h
  exact ⟨b, q, h1, fun e => ⟨fun H w ρ hst hr => (h2 e).out H w ρ (hst.sub hs) hr⟩, h3⟩
/-- what a run leaves: every operation yields at the last frame what its slot holds there -/
theorem RunA.full {l : List Oper} {F F' : Fr} (h : RunA P c n L ops l F F') : l.Pairwise (fun o o' => ∀ d, o'.dst = some d → d ∉ o.looksAt ops ∧ o.dst ≠ some d) → (∀ o ∈ l, ∀ d, o.dst = some d → d ∉ o.looksAt ops) →
    (∀ o ∈ l, ∃ r, YieldsA P c n L ops o F' r ∧ ∀ d, o.dst = some d → look F' d = some r) ∧ ∀ s, (∀ o ∈ l, o.dst ≠ some s) → look F' s = look F s := by
  induction h with
  | nil => intro _ _; exact ⟨fun o ho => (by cases ho), fun _ _ => rfl⟩
  | @cons o l F F' r h t ih =>
    intro hp hq
    rw [List.pairwise_cons] at hp
    obtain ⟨i1, i2⟩ := ih hp.2 fun o' ho' => hq o' (List.mem_cons_of_mem _ ho')
    have hput : ∀ s, o.dst ≠ some s → look (putF o.dst r F) s = look F s := fun s hs => by
      cases hd : o.dst with
      | none => rfl
      | some d => exact look_cons_ne _ _ fun e => hs (by rw [hd, e])
    refine ⟨fun o' ho' => ?_, fun s hs => ?_⟩
    · rcases List.mem_cons.1 ho' with rfl | ho'
      · refine ⟨r, h.congr fun d hd => ?_, fun d hd => ?_⟩
        · rw [i2 d fun q hq' e => (hp.1 q hq' d e).1 hd, hput d fun e => hq _ (by simp) d e hd]
        · rw [i2 d fun q hq' e => (hp.1 q hq' d e).2 hd, hd]
          exact look_cons_self _ _ _
      · exact i1 o' ho'
    · rw [i2 s fun q hq' => hs q (List.mem_cons_of_mem _ hq'), hput s (hs o (by simp))]
def chE (ops : Array Oper) : List Nat → Bool
  | x :: y :: l => edgeB ops y x && chE ops (y :: l)
  | _ => true
theorem chE_mem : ∀ {j : Nat} {l : List Nat} {i : Nat}, chE ops (j :: l) = true → i ∈ l → ∃ x ∈ j :: l, edgeB ops i x = true
  | j, [], i, _, h => by cases h
  | j, y :: l, i, h, hi => by
    simp only [chE, Bool.and_eq_true] at h
    rcases List.mem_cons.1 hi with rfl | hi
    · exact ⟨j, by simp, h.1⟩
    · obtain ⟨x, hx, he⟩ := chE_mem h.2 hi
      exact ⟨x, List.mem_cons_of_mem _ hx, he⟩
theorem chE_tl {j : Nat} {l : List Nat} (h : chE ops (j :: l) = true) : chE ops l = true := by
  cases l with
  | nil => rfl
  | cons y l => simp only [chE, Bool.and_eq_true] at h; exact h.2
/-- what the order of a region must keep: cs are the operations that turn the heap -/
structure Mix (ops : Array Oper) (m : Nat) (cs : List Nat) : Prop where
  size : ops.size = m
  back : ∀ (k : Nat) (o : Oper), ops[k]? = some o → ∀ e ∈ o.after, Region.binds .any e = true → e.on < k
  deps : ∀ (k i : Nat) (o o' : Oper) (d : Tmp), ops[k]? = some o → ops[i]? = some o' → o'.dst = some d → d ∈ o.looksAt ops → (edgeB ops k i = true ∧ (k ∉ cs → i ∉ cs)) ∨ (i ∈ cs ∧ edgeB ops i k = true)
  dist : ∀ (k i : Nat) (o o' : Oper) (d : Tmp), ops[k]? = some o → ops[i]? = some o' → o'.dst = some d → o.dst = some d → k = i
theorem ready_edge {listed : Array Bool} {i x : Nat} (hi : i ∈ Region.ready .any ops listed) (he : edgeB ops i x = true) : listed.getD x true = false → False := by
  obtain ⟨_, o, ho, hall⟩ := mem_ready.1 hi
  obtain ⟨o', ho', e, h1, h2, h3⟩ := edgeB_spec he
  rw [ho] at ho'
  cases ho'
  have := hall e h1 h2
  rw [h3] at this
  intro h
  rcases Nat.lt_or_ge x listed.size with hlt | hge
  · simp [hlt] at this h
    rw [this] at h
    cases h
  · simp [Array.getElem?_eq_none hge] at this
theorem closed_edge {listed : Array Bool} (hc : Closed ops listed) {i k : Nat} (hi : listed.getD i true = true) (him : i < listed.size) (hk : k < listed.size) (he : edgeB ops i k = true) (hun : listed.getD k true = false) : False := by
  obtain ⟨o, ho, e, h1, h2, h3⟩ := edgeB_spec he
  have := hc i o ho (by simpa [him] using hi) e h1 h2
  rw [h3] at this
  simp [hk] at this hun
  rw [this] at hun
  cases hun
theorem lets_only {Q1 Q2 : Exit → Act → World → Prop} (h : LetsOut (OnlyN Q1)) : LetsOut (OnlyN Q2) := by
  obtain ⟨a, w, h⟩ := h
  exact h.elim
theorem wp_only {o : Oper} {a : Act} {w : World} {K K' : Act → World → Prop} {Q1 Q2 : Exit → Act → World → Prop} (h : ∀ a w, K a w → K' a w) (hh : o.wp P a w K (OnlyN Q1)) : o.wp P a w K' (OnlyN Q2) := by
  unfold Oper.wp at *
  generalize (execOp a.eval o).run P w = r at *
  cases r with
  | ok n w' =>
    cases n <;> simp only [Oper.upon] at hh ⊢ <;>
      first
        | exact h _ _ hh
        | exact Calls.mono hh (fun e w'' he => by cases e <;> first | exact h _ _ he | exact lets_only he | exact he.elim)
        | exact Rows.mono hh (fun _ _ he => h _ _ he)
  | halt x w' => cases x <;> simp only [Oper.upon] at hh ⊢ <;> exact hh.elim
theorem wpOp_one {i : Nat} {o : Oper} {a : Act} {w : World} {K' : Act → World → Prop} {Q1 Q2 : Exit → Act → World → Prop} (ho : ops[i]? = some o) (hK : ∀ a w, Q1 .normal a w → K' a w) (h : wpList P ops (OnlyN Q1) [o] a w) : wpOp P ops (OnlyN Q2) i K' a w := by
  unfold wpOp
  simp only [ho]
  unfold wpList at h
  split at h
  · rename_i hw
    rw [if_pos hw]
    exact h.imp (wp_only fun a w h => hK a w h) (fun h => ⟨h.1, lets_only h.2⟩)
  · rename_i hw
    rw [if_neg hw]
    exact hK _ _ h
theorem min_unl {listed : Array Bool} : ∀ i, listed.getD i true = false → ∃ j, j ≤ i ∧ listed.getD j true = false ∧ ∀ k, k < j → listed.getD k true = true := by
  intro i
  induction i using Nat.strongRecOn with
  | _ i ih =>
    intro h
    by_cases h' : ∃ k, k < i ∧ listed.getD k true = false
    · obtain ⟨k, hk, hl⟩ := h'
      obtain ⟨j, a, b, e⟩ := ih k hk hl
      exact ⟨j, by omega, b, e⟩
    · exact ⟨i, Nat.le_refl _, h, fun k hk => by
        cases hb : listed.getD k true with
        | true => rfl
        | false => exact absurd ⟨k, hk, hb⟩ h'⟩
theorem put_ne {d : Option Tmp} {r : AV} {s : Tmp} (h : d ≠ some s) : look (putF d r F) s = look F s := by
  cases d with
  | none => rfl
  | some d => exact look_cons_ne _ _ fun e => h (by rw [e])
theorem put_eq {d : Option Tmp} {r : AV} {s : Tmp} (h : look G s = look F s) : look (putF d r G) s = look (putF d r F) s := by
  cases d with
  | none => exact h
  | some d =>
    by_cases e : d = s
    · subst e; simp [putF, look_cons_self]
    · simp [putF, look_cons_ne _ _ e, h]
theorem wpAny_mix {m : Nat} {K : Fr → List Ent → Prop} {cs0 : List Nat} {Ff : Fr} (hM : Mix ops m cs0)
    (hK : ∀ F L H w a, K F L → St c H w L → Fit H n F a → wpList P ops (OnlyN Q) [] a w)
    (hfl : ∀ i o, ops[i]? = some o → i ∉ cs0 → ∃ r, YieldsA P c n L0 ops o Ff r ∧ ∀ d, o.dst = some d → look Ff d = some r) :
    ∀ (fuel : Nat) (listed : Array Bool) (cs : List Nat) (F G : Fr) (L : List Ent) (H : Cells) (w : World) (a : Act), listed.size = m → Closed ops listed → unl m listed = fuel →
      (∀ i ∈ cs, listed.getD i true = false) → (∀ i ∈ cs0, i ∈ cs ∨ listed.getD i true = true) → (∀ i ∈ cs, i ∈ cs0) → cs.Nodup → chE ops cs = true → Kx P c n ops L0 K cs F L → L0.Sublist L →
      (∀ s, (∀ i o, i ∈ cs0 → ops[i]? = some o → listed.getD i true = true → o.dst ≠ some s) → look F s = look Ff s) →
      (∀ s, (∀ i o, ops[i]? = some o → listed.getD i true = false → i ∉ cs0 → o.dst ≠ some s) → look G s = look F s) →
      St c H w L → Fit H n G a → wpAny P .any ops (OnlyN Q) fuel listed a w := by
  intro fuel
  induction fuel with
  | zero =>
    intro listed cs F G L H w a hsz hc hu h1 h2 h3 hn hch hk hsub hFf hG hst hF
    have hz := unl_zero hu
    have hlt : ∀ {i : Nat} {o : Oper}, ops[i]? = some o → i < m := fun ho => by rw [← hM.size]; exact (Array.getElem?_eq_some_iff.1 ho).1
    cases hk with
    | cons ho R hs hl hk =>
      have := hz _ (hlt ho)
      rw [h1 _ (by simp)] at this
      cases this
    | nil hk =>
      refine ⟨?_, hK F L H w a hk hst (hF.weak fun s x hx => ?_)⟩
      · rw [List.eq_nil_iff_forall_not_mem]
        intro i hi
        obtain ⟨g1, o, ho, _⟩ := mem_ready.1 hi
        rw [hz i (hlt ho)] at g1
        cases g1
      · rw [hG s fun i o ho hl _ => by rw [hz i (hlt ho)] at hl; cases hl]
        exact hx
  | succ fuel ih =>
    intro listed cs F G L H w a hsz hc hu h1 h2 h3 hn hch hk hsub hFf hG hst hF
    refine ⟨fun h0 => ?_, fun i hi => ?_⟩
    · exfalso
      obtain ⟨i, hi, hl⟩ := unl_pos (k := m) (listed := listed) (by omega)
      obtain ⟨j, g1, g2, g3⟩ := min_unl i hl
      have hjm : j < ops.size := by have := hM.size; omega
      have hj : j ∈ Region.ready .any ops listed := mem_ready.2 ⟨g2, ops[j], Array.getElem?_eq_getElem hjm, fun e he hb => by
        have hlt := hM.back j _ (Array.getElem?_eq_getElem hjm) e he hb
        have := g3 e.on hlt
        have hel : e.on < listed.size := by omega
        simp [hel] at this ⊢
        exact this⟩
      rw [h0] at hj
      cases hj
    obtain ⟨hun, o, ho, _⟩ := mem_ready.1 hi
    have him : i < m := by rw [← hM.size]; exact (Array.getElem?_eq_some_iff.1 ho).1
    have hil : i < listed.size := by omega
    have hus := unl_set hil hun m
    rw [if_pos him] at hus
    have hag : ∀ d, d ∈ o.looksAt ops → look F d = look G d := fun d hd => (hG d fun i' o' ho' hl' hn' he => (hM.deps i i' o o' d ho ho' he hd).elim (fun h => ready_edge hi h.1 hl') (fun h => hn' h.1)).symm
    by_cases hic : i ∈ cs0
    · have hics : i ∈ cs := (h2 i hic).resolve_right (by rw [hun]; simp)
      cases hk with
      | nil => cases hics
      | @cons j rest o' _ _ ho' R hs hl hk =>
        have e : j = i := by
          rcases List.mem_cons.1 hics with e | hr
          · exact e.symm
          · obtain ⟨x, hx, he⟩ := chE_mem hch hr
            exact (ready_edge hi he (h1 x hx)).elim
        subst e
        rw [ho] at ho'
        cases ho'
        refine wpOp_one ho (Q1 := fun _ a' w' => wpAny P .any ops (OnlyN Q) fuel (listed.setIfInBounds j true) a' w') (fun _ _ h => h) ((hs G _ hag fun r L' hR => Lx.nil ⟨fun H' w' a' hst' hF' => ?_⟩).out H w a hst hF)
        refine ih _ rest (putF o.dst r F) (putF o.dst r G) L' H' w' a' (by simpa using hsz) (hc.set hi) (by omega) (fun x hx => ?_) (fun x hx => ?_) (fun x hx => h3 x (List.mem_cons_of_mem _ hx)) (List.nodup_cons.1 hn).2 (chE_tl hch) (hk r L' hR) (hl r L' hR) (fun s hs' => ?_) (fun s hs' => ?_) hst' hF'
        · rw [getD_set_ne true (fun e => (List.nodup_cons.1 hn).1 (by rw [e]; exact hx))]
          exact h1 x (List.mem_cons_of_mem _ hx)
        · by_cases e : j = x
          · right
            subst e
            simp [hil]
          · rcases h2 x hx with h | h
            · rcases List.mem_cons.1 h with h | h
              · exact absurd h.symm e
              · exact .inl h
            · right
              rw [getD_set_ne true e]
              exact h
        · rw [put_ne (hs' j o hic ho (by simp [hil]))]
          exact hFf s fun i' o' hi' ho' hl' => hs' i' o' hi' ho' (by
            by_cases e : j = i'
            · subst e; simp [hil]
            · rw [getD_set_ne true e]; exact hl')
        · exact put_eq (hG s fun i' o' ho' hl' hn' => hs' i' o' ho' (by rw [getD_set_ne true (fun e => hn' (by rw [← e]; exact hic))]; exact hl') hn')
    · obtain ⟨r, hy, hd⟩ := hfl i o ho hic
      have hy' : YieldsA P c n L ops o G r := (hy.sub hsub).congr fun d hd' => by
        rw [← hag d hd']
        exact (hFf d fun i' o' hi' ho' hl' he => (hM.deps i i' o o' d ho ho' he hd').elim (fun h => h.2 hic hi') (fun h => closed_edge hc hl' (by have := (Array.getElem?_eq_some_iff.1 ho').1; have := hM.size; omega) hil h.2 hun)).symm
      have hnext : ∀ H' w' v, H.le H' → St c H' w' L → Rel H' r v → wpAny P .any ops (OnlyN Q) fuel (listed.setIfInBounds i true) (a.put o.dst v) w' := fun H' w' v hle hs' hr => by
        refine ih _ cs F (putF o.dst r G) L H' w' _ (by simpa using hsz) (hc.set hi) (by omega) (fun x hx => ?_) (fun x hx => ?_) h3 hn hch hk hsub (fun s hs'' => hFf s fun i' o' hi' ho' hl' => hs'' i' o' hi' ho' (by rw [getD_set_ne true (fun e => hic (by rw [e]; exact hi'))]; exact hl')) (fun s hs'' => ?_) hs' ((hF.mono hle).put hr o.dst)
        · rw [getD_set_ne true (fun e => hic (by rw [e]; exact h3 x hx))]
          exact h1 x hx
        · rcases h2 x hx with h | h
          · exact .inl h
          · right
            rw [getD_set_ne true (fun e => hic (by rw [e]; exact hx))]
            exact h
        · by_cases e : o.dst = some s
          · rw [hFf s fun i' o' hi' ho' _ he => hic (by rw [← hM.dist i' i o' o s ho' ho e he]; exact hi'), hd s e, e]
            exact look_cons_self _ _ _
          · rw [put_ne e]
            refine hG s fun i' o' ho' hl' hn' => ?_
            by_cases e' : i = i'
            · subst e'
              rw [ho] at ho'
              cases ho'
              exact e
            · exact hs'' i' o' ho' (by rw [getD_set_ne true e']; exact hl') hn'
      unfold wpOp
      simp only [ho]
      rcases hy'.cases with ⟨_, hw, hg, hrr⟩ | ⟨hw, hrr⟩
      · rw [if_pos (wanted_fit hF.size hF.rel hw)]
        exact .inl (oper_wp_grows hst (hg.out H w a.eval hst (hF.reads _) o.dst o.pos o.after o.guard) fun H' w' v hl hs' hr => hnext H' w' v hl hs' (hrr _ _ hr))
      · rw [if_neg (by rw [wanted_fit hF.size hF.rel hw]; simp)]
        exact hnext H w undef (Cells.le_refl _) hst (hrr _)
def ascB : List Nat → Bool
  | x :: y :: l => Nat.blt x y && ascB (y :: l)
  | _ => true
theorem ascB_pw : ∀ {l : List Nat}, ascB l = true → l.Pairwise (· < ·)
  | [], _ => .nil
  | [_], _ => List.pairwise_singleton _ _
  | x :: y :: l, h => by
    simp only [ascB, Bool.and_eq_true] at h
    have ih := ascB_pw h.2
    have hxy : x < y := Nat.le_of_ble_eq_true h.1
    refine List.pairwise_cons.2 ⟨fun z hz => ?_, ih⟩
    rcases List.mem_cons.1 hz with rfl | hz
    · exact hxy
    · exact Nat.lt_trans hxy ((List.pairwise_cons.1 ih).1 z hz)
def mixB (ops : Array Oper) (m : Nat) (cs : List Nat) : Bool :=
  (List.range m).all fun k => match ops[k]? with
    | none => true
    | some o => o.after.all (fun e => !Region.binds .any e || Nat.blt e.on k) && (List.range m).all fun i => match (ops[i]?).bind (·.dst) with
      | none => true
      | some d => (!(o.looksAt ops).contains d || (edgeB ops k i && (cs.contains k || !cs.contains i)) || (cs.contains i && edgeB ops i k)) && (!(o.dst == some d) || Nat.beq k i)
theorem mix_of {m : Nat} {cs : List Nat} (hs : ops.size = m) (h : mixB ops m cs = true) : Mix ops m cs := by
  have hlt : ∀ {i : Nat} {o : Oper}, ops[i]? = some o → i < m := fun ho => by rw [← hs]; exact (Array.getElem?_eq_some_iff.1 ho).1
  unfold mixB at h
  rw [List.all_eq_true] at h
  have key : ∀ (k i : Nat) (o o' : Oper) (d : Tmp), ops[k]? = some o → ops[i]? = some o' → o'.dst = some d → ((!(o.looksAt ops).contains d || (edgeB ops k i && (cs.contains k || !cs.contains i)) || (cs.contains i && edgeB ops i k)) && (!(o.dst == some d) || Nat.beq k i)) = true := fun k i o o' d hk hi hd => by
    have := h k (List.mem_range.2 (hlt hk))
    simp only [hk, Bool.and_eq_true] at this
    have := List.all_eq_true.1 this.2 i (List.mem_range.2 (hlt hi))
    simpa only [hi, Option.bind_some, hd] using this
  refine ⟨hs, fun k o hk e he hb => ?_, fun k i o o' d hk hi hd hm => ?_, fun k i o o' d hk hi hd he => ?_⟩
  · have := h k (List.mem_range.2 (hlt hk))
    simp only [hk, Bool.and_eq_true] at this
    have := Array.all_eq_true_iff_forall_mem.1 this.1 e he
    simp only [hb, Bool.not_true, Bool.false_or] at this
    exact Nat.le_of_ble_eq_true this
  · have := key k i o o' d hk hi hd
    simp only [Bool.and_eq_true, Bool.or_eq_true, Bool.not_eq_true', List.contains_eq_mem, decide_eq_false_iff_not, decide_eq_true_eq] at this
    rcases this.1 with (h' | h') | h'
    · exact absurd hm h'
    · exact .inl ⟨h'.1, fun hn => h'.2.resolve_left hn⟩
    · exact .inr h'
  · have := key k i o o' d hk hi hd
    simp only [Bool.and_eq_true, Bool.or_eq_true, Bool.not_eq_true', he, beq_self_eq_true, Bool.true_eq_false, false_or] at this
    exact Nat.eq_of_beq_eq_true this.2
def partB (ops : Array Oper) (m : Nat) (fs cs : List Nat) : Bool := ascB fs && ascB cs && chE ops cs && (fs.all fun i => Nat.blt i m && !cs.contains i) && (cs.all fun i => Nat.blt i m) && (List.range m).all fun i => cs.contains i || fs.contains i
theorem Cx.anyK {id : Nat} {l : List Oper} {m : Nat} (fs cs : List Nat) (L0 : List Ent) (hsub : L0.Sublist L) (hm : P.follows .mixedOrders = true) (hl : l.length = m) (hd : l.all (fun o => noDef o.op) = true)
    (hB : mixB l.toArray m cs = true) (hC : partB l.toArray m fs cs = true)
    (h : Ox P c n l.toArray (fun Ff => Kx P c n l.toArray L0 (fun F L' => Lx P c n l.toArray Q [] F L') cs Ff L) (fs.map fun i => l.getD i default) F L0) : Cx P c n (.region id l.toArray true) Q F L :=
  ⟨fun H w a hs hF _ => by
    have hsz : l.toArray.size = m := by simpa using hl
    have hM := mix_of hsz hB
    simp only [partB, Bool.and_eq_true, List.all_eq_true, List.mem_range, Bool.or_eq_true, Bool.not_eq_true', List.contains_eq_mem, decide_eq_false_iff_not, decide_eq_true_eq] at hC
    obtain ⟨⟨⟨⟨⟨c1, c2⟩, c3⟩, c4⟩, c6⟩, c5⟩ := hC
    refine wpIn_of_any hd hm ?_
    obtain ⟨Ff, h1, h2⟩ := h.out
    have hget : ∀ i ∈ fs, l.toArray[i]? = some (l.getD i default) := fun i hi => by
      have : i < l.length := by rw [hl]; exact Nat.le_of_ble_eq_true (c4 i hi).1
      simp [this]
    obtain ⟨f1, f2⟩ := h1.full (by
        rw [List.pairwise_map]
        refine (List.Pairwise.and_mem.1 (ascB_pw c1)).imp ?_
        rintro i j ⟨hi, hj, hij⟩ d hd
        refine ⟨fun hm => ?_, fun he => ?_⟩
        · have := ((hM.deps i j _ _ d (hget i hi) (hget j hj) hd hm).resolve_right fun h => (c4 j hj).2 h.1).1
          obtain ⟨o, ho, e, e1, e2, e3⟩ := edgeB_spec this
          have := hM.back i o ho e e1 e2
          omega
        · have := hM.dist i j _ _ d (hget i hi) (hget j hj) hd he
          omega) (fun o ho d hd hm => by
        obtain ⟨i, hi, rfl⟩ := List.mem_map.1 ho
        have := ((hM.deps i i _ _ d (hget i hi) (hget i hi) hd hm).resolve_right fun h => (c4 i hi).2 h.1).1
        obtain ⟨o, ho, e, e1, e2, e3⟩ := edgeB_spec this
        have := hM.back i o ho e e1 e2
        omega)
    have hfl : ∀ i o, l.toArray[i]? = some o → i ∉ cs → i ∈ fs ∧ o = l.getD i default := fun i o ho hn => by
      have him : i < m := by rw [← hsz]; exact (Array.getElem?_eq_some_iff.1 ho).1
      have hi := (c5 i him).resolve_left hn
      refine ⟨hi, ?_⟩
      rw [hget i hi] at ho
      exact (Option.some.inj ho).symm
    have hun : ∀ k, k ≤ m → unl k (Array.replicate m false) = k := by
      intro k
      induction k with
      | zero => intro _; rfl
      | succ k ih =>
        intro hk
        have h3 := ih (by omega)
        simp only [unl, h3]
        rw [if_pos (by simp [show k < m by omega])]
    rw [hsz]
    have := wpAny_mix (P := P) (Q := Q) (K := fun F L' => Lx P c n l.toArray Q [] F L') (Ff := Ff) hM (fun F L H w a k hst hF => k.out H w a hst hF)
      (fun i o ho hn => by
        obtain ⟨hi, rfl⟩ := hfl i o ho hn
        exact f1 _ (List.mem_map.2 ⟨i, hi, rfl⟩)) m (Array.replicate m false) cs Ff F L H _ a (by simp) (fun k o ho hk => by simp [Array.getElem?_replicate] at hk; split at hk <;> simp_all) (hun m (Nat.le_refl _))
      (fun i hi => by
        have him : i < m := Nat.le_of_ble_eq_true (c6 i hi)
        simp [him]) (fun i hi => .inl hi) (fun i hi => hi) ((ascB_pw c2).imp fun h => Nat.ne_of_lt h) c3 h2 hsub (fun s _ => rfl) (fun s hs' => by
          refine (f2 s fun o ho he => ?_).symm
          obtain ⟨i, hi, rfl⟩ := List.mem_map.1 ho
          have him : i < m := Nat.le_of_ble_eq_true (c4 i hi).1
          exact hs' i _ (hget i hi) (by simp [him]) (c4 i hi).2 he) hs.drew hF
    exact this⟩
/-! rules for the operations that turn the heap -/
theorem look_op {d : Option Tmp} {o : Op} {ty : TypeId} {pos : String} {aft : Array Edge} {g : Option (Nat × Bool)} (hag : ∀ s, s ∈ (⟨d, o, ty, pos, aft, g⟩ : Oper).looksAt ops → look F s = look G s) {x : Operand} (hm : x ∈ o.operands) : oget n F x = oget n G x := by
  cases x with
  | tmp t =>
    simp only [oget]
    rw [hag t (List.mem_append_left _ (List.mem_filterMap.2 ⟨.tmp t, by simpa using hm, rfl⟩))]
  | _ => rfl
variable {K : Fr → List Ent → Prop} {i : Nat} {is : List Nat} {d : Option Tmp} {o : Op} {ty : TypeId} {pos : String} {aft : Array Edge}
theorem Kx.gr {r : AV} (ho : ops[i]? = some ⟨d, o, ty, pos, aft, none⟩) (hsub : L0.Sublist L) (h : Gr P c n o ty F L r) (k : Kx P c n ops L0 K is (putF d r F) L) : Kx P c n ops L0 K (i :: is) F L :=
  .cons ho (fun r' L' => r' = r ∧ L' = L) (fun _ _ hag hk => Lx.gr rfl (h.congr fun _ hm => look_op hag hm) (hk r L ⟨rfl, rfl⟩)) (fun _ _ e => by rw [e.2]; exact hsub) (fun _ _ e => by obtain ⟨rfl, rfl⟩ := e; exact k)
theorem ogets_look {xs : List Operand} (h : ∀ x ∈ xs, oget n F x = oget n G x) : ogets n F xs = ogets n G xs := by
  induction xs with
  | nil => rfl
  | cons x xs ih =>
    simp only [ogets]
    rw [h x (by simp), ih fun y hy => h y (by simp [hy])]
theorem Kx.call {f : FuncId} {x : Operand} {xs : List Operand} {as' as : List AV} {ts : Array TypeId} {Φ : AV → List Ent → Prop} (ho : ops[i]? = some ⟨d, .call ⟨.value x, xs.toArray, ts⟩, ty, pos, aft, none⟩) (hsub : L0.Sublist L)
    (hf : EntersT P f) (hx : oget n F x = some (.v (.func (.func f) #[] #[]))) (hv : ogets n F xs = some as') (hsb : SbL L as' as) (hc : FnE P f as Φ) (k : ∀ a E, Φ a E → Kx P c n ops L0 K is (putF d a F) (E ++ L)) : Kx P c n ops L0 K (i :: is) F L :=
  .cons ho (fun r L' => ∃ E, Φ r E ∧ L' = E ++ L) (fun _ _ hag hk => Lx.call hf rfl (by rw [← look_op hag (by simp [Op.operands, Call.operands])]; exact hx) (by rw [← ogets_look fun y hy => look_op hag (by simp [Op.operands, Call.operands, hy])]; exact hv) hsb hc fun a E h => hk a _ ⟨E, h, rfl⟩)
    (fun _ _ ⟨E, _, e⟩ => by rw [e]; exact hsub.trans (List.sublist_append_right _ _)) (fun r _ ⟨E, h, e⟩ => by rw [e]; exact k r E h)
theorem Kx.append {t e : TypeId} {size bytes q : Nat} {z : Bool} {s x : Operand} {v : Value} {a : AV} {xs ys : List AV} (ho : ops[i]? = some ⟨d, .call ⟨.builtin .append, #[s, x], #[t, t]⟩, ty, pos, aft, none⟩) (hap : ApT P t e size bytes) (hs : oget n F s = some (.v v)) (hx : oget n F x = some a)
    (j : Nat) (hi : L[j]? = some (.row v e size q z xs)) (hsb : Sb L a (.sl size ys)) (h1 : (ys.flatMap AV.cells).all AV.one = true) (hb : (xs.length + ys.length) * bytes ≤ 140737488355328)
    (hsub : ∀ v', L0.Sublist (L.set j (.row v' e size q false (xs ++ ys)))) (k : ∀ v', Kx P c n ops L0 K is (putF d (.v v') F) (L.set j (.row v' e size q false (xs ++ ys)))) : Kx P c n ops L0 K (i :: is) F L :=
  .cons ho (fun r L' => ∃ v', r = .v v' ∧ L' = L.set j (.row v' e size q false (xs ++ ys))) (fun _ _ hag hk => Lx.append hap rfl (by rw [← look_op hag (by simp [Op.operands, Call.operands])]; exact hs) (by rw [← look_op hag (by simp [Op.operands, Call.operands])]; exact hx) j hi hsb h1 hb fun v' => hk _ _ ⟨v', rfl, rfl⟩)
    (fun _ _ ⟨v', _, e⟩ => by rw [e]; exact hsub v') (fun _ _ ⟨v', e1, e2⟩ => by rw [e1, e2]; exact k v')
/-- ghost steps -/
theorem Kx.frzR (j : Nat) {v : Value} {t : TypeId} {size q : Nat} {z : Bool} {xs : List AV} (hL : L[j]? = some (.row v t size q z xs)) (k : Kx P c n ops L0 K (i :: is) F (L.set j (.row v t size xs.length true xs))) : Kx P c n ops L0 K (i :: is) F L := by
  cases k with
  | cons ho R hs hl hk => exact .cons ho R (fun G Q h1 h2 => Lx.frzR j hL (hs G Q h1 h2)) hl hk
theorem one_ints : ∀ l : List Int, ((l.map I).flatMap AV.cells).all AV.one = true
  | [] => rfl
  | x :: l => by rw [List.map_cons, List.flatMap_cons, List.all_append, one_ints l]; rfl
end
end Go.E2
