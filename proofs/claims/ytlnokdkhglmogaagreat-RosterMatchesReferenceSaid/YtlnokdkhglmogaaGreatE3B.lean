/-
  The engine, second make, part B: judgements, code, loops, functions.
  Conditions: none beyond the premises of each rule.
-/
import Derived.Test.YtlnokdkhglmogaaGreatE3A
namespace Go.E2
open Go.RowKit

def OnlyN (Q : Exit → Act → World → Prop) : Exit → Act → World → Prop
  | .normal, a, w => Q .normal a w
  | _, _, _ => False
def wd (ro : Option Nat) : Fence := { Fence.wide with round := ro }
structure Lx (P : Program) (c : Ctx) (n : Cfg) (ops : Array Oper) (Q : Exit → Act → World → Prop) (l : List Oper) (F : Fr) (L : List Ent) : Prop where
  out : ∀ H w a, St c H w L → Fit H n F a → wpList P ops (OnlyN Q) l a w
structure Cx (P : Program) (c : Ctx) (n : Cfg) (code : Code) (Q : Exit → Act → World → Prop) (F : Fr) (L : List Ent) : Prop where
  out : ∀ H w a, St c H w L → Fit H n F a → ∀ d, code.wpIn (wd n.ro) d P Q a w
structure Ex (c : Ctx) (n : Cfg) (Q : Exit → Act → World → Prop) (e : Exit) (F : Fr) (L : List Ent) : Prop where
  out : ∀ H w a, St c H w L → Fit H n F a → Q e a w
/-- a call's contract -/
structure FnE (P : Program) (f : FuncId) (args : List AV) (Φ : AV → List Ent → Prop) : Prop where
  out : ∀ H w vs, HIn H w → RelL H args vs → Calls P f vs.toArray w fun e w' => ∃ v a H' E, e = .returned v ∧ Φ a E ∧ Rel H' a v ∧ St ⟨w, H⟩ H' w' E
def Is (r : AV) : AV → List Ent → Prop := fun a E => a = r ∧ E = []
abbrev FnA (P : Program) (f : FuncId) (args : List AV) (r : AV) : Prop := FnE P f args (Is r)
theorem FnE.mono {P : Program} {f : FuncId} {args : List AV} {Φ Ψ : AV → List Ent → Prop} (h : FnE P f args Φ) (hm : ∀ a E, Φ a E → Ψ a E) : FnE P f args Ψ :=
  ⟨fun H w vs hi hr => Calls.mono (h.out H w vs hi hr) fun _ _ ⟨v, a, H', E, he, hp, hs⟩ => ⟨v, a, H', E, he, hm _ _ hp, hs⟩⟩
theorem FnE.val {P : Program} {f : FuncId} {args : List AV} {r r' : AV} (h : FnA P f args r) (e : r = r') : FnA P f args r' := by subst e; exact h

/-! regions: from the plain to the fenced -/
def noDef : Op → Bool
  | .defer _ => false
  | _ => true
theorem callsIn_wd {P : Program} {f : FuncId} {args : Array Value} {w : World} {R : Ending → World → Prop} (ro : Option Nat) (d : Nat) (h : Calls P f args w R) : CallsIn (wd ro) d P f args w R := by
  cases ro with
  | none => exact callsIn_wide.2 h
  | some l => exact CallsIn.inRound l (callsIn_wide.2 h)
theorem rowsIn_wd {P : Program} {row : String} {args : Array Value} {w : World} {R : Value → World → Prop} (ro : Option Nat) (d : Nat) (h : Rows P row args w R) : RowsIn (wd ro) d P row args w R :=
  fun c cs _ => let ⟨v, w', r, s⟩ := h c cs; ⟨v, w', r, (StepsIn.of_steps s).mono fun m _ => fenced_wide P m⟩
theorem oper_in {P : Program} {o : Oper} {a : Act} {w : World} {ro : Option Nat} {d : Nat} {Q : Exit → Act → World → Prop} {K K' : Act → World → Prop} (hd : noDef o.op = true) (hK : ∀ a w, K a w → K' a w) (h : o.wp P a w K (OnlyN Q)) : o.wpIn (wd ro) d P a w K' Q := by
  refine ⟨fun _ _ => trivial, ?_⟩
  have hs : o.semAt (wd ro).round a.eval = execOp a.eval o := Oper.semAt_eq _ _ _ (fun c hc => by rw [hc] at hd; cases hd)
  rw [hs]
  unfold Oper.wp at h
  generalize (execOp a.eval o).run P w = r at *
  have hdep : (wd ro).depth.isSome = true → 1 ≤ d := fun h => by simp [wd, Fence.wide] at h
  cases r with
  | ok nx w' =>
    cases nx with
    | value v => exact hK _ _ h
    | skip => exact hK _ _ h
    | defer dd => exact hK _ _ h
    | enter f args =>
      refine ⟨hdep, callsIn_wd ro _ (Calls.mono h ?_)⟩
      intro e w'' he
      cases e with
      | returned v => exact hK _ _ he
      | panicked c => exact he.elim
      | outgrown => obtain ⟨_, _, hf⟩ := he; exact hf.elim
    | row row args => exact ⟨hdep, rowsIn_wd ro _ (Rows.mono h fun _ _ he => hK _ _ he)⟩
    | _ => exact h.elim
  | halt x w' => cases x <;> exact h.elim
theorem wpOps_in {P : Program} {ops : Array Oper} {ro : Option Nat} {d : Nat} {Q : Exit → Act → World → Prop} (hd : ∀ (i : Nat) (o : Oper), ops[i]? = some o → noDef o.op = true) : ∀ (l : List Nat) (a : Act) (w : World), wpOps P ops (OnlyN Q) l a w → wpOpsIn (wd ro) d P ops Q l a w
  | [], _, _, h => h
  | i :: l, a, w, h => by
    simp only [wpOps] at h
    simp only [wpOpsIn]
    cases ho : ops[i]? with
    | none => rw [ho] at h; exact wpOps_in hd l a w h
    | some o =>
      rw [ho] at h
      simp only at h ⊢
      split at h
      · rename_i hw
        rw [if_pos hw]
        rcases h with h | ⟨_, _, _, hf⟩
        · exact oper_in (hd i o ho) (fun a w => wpOps_in hd l a w) h
        · exact hf.elim
      · rename_i hw
        rw [if_neg hw]
        exact ⟨fun _ _ => trivial, wpOps_in hd l _ w h⟩
theorem noDef_get {l : List Oper} (h : l.all (fun o => noDef o.op) = true) (i : Nat) (o : Oper) (ho : l.toArray[i]? = some o) : noDef o.op = true := by
  simp only [List.getElem?_toArray] at ho
  exact List.all_eq_true.1 h o (List.mem_of_getElem? ho)
/-- a region whose order is open, every order shown -/
theorem wpIn_of_any {P : Program} {id : Nat} {l : List Oper} {ro : Option Nat} {d : Nat} {Q : Exit → Act → World → Prop} {a : Act} {w : World} (hd : l.all (fun o => noDef o.op) = true) (hm : P.follows .mixedOrders = true)
    (h : wpAny P .any l.toArray (OnlyN Q) l.toArray.size (Array.replicate l.toArray.size false) a { w with drawn := w.drawn + 1 }) : (Code.region id l.toArray true).wpIn (wd ro) d P Q a w :=
  wpIn_region_draw fun t => by
    simp only [Region.schedule, hm, Bool.true_or, if_true]
    exact wpOps_in (noDef_get hd) _ _ _ (wpAny_sound _ t _ a _ h)

section rules
variable {P : Program} {c : Ctx} {n : Cfg} {ops : Array Oper} {Q : Exit → Act → World → Prop} {F : Fr} {L : List Ent} {m : Nat} {ds : List Deferred} {ro : Option Nat}

/-! code: what stands behind is kept behind a variable K -/
structure Kseq (P : Program) (m : Nat) (ro : Option Nat) (c : Ctx) (y : Code) (Q K : Exit → Act → World → Prop) : Prop where
  norm : ∀ ds F L, Cx P c ⟨m, ds, ro⟩ y Q F L → Ex c ⟨m, ds, ro⟩ K .normal F L
  other : ∀ ds e F L, e ≠ .normal → Ex c ⟨m, ds, ro⟩ Q e F L → Ex c ⟨m, ds, ro⟩ K e F L
structure Kblk (m : Nat) (ro : Option Nat) (c : Ctx) (id : Nat) (Q K : Exit → Act → World → Prop) : Prop where
  norm : ∀ ds F L, Ex c ⟨m, ds, ro⟩ Q .normal F L → Ex c ⟨m, ds, ro⟩ K .normal F L
  out : ∀ ds F L, Ex c ⟨m, ds, ro⟩ Q .normal F L → Ex c ⟨m, ds, ro⟩ K (.exit id) F L
  other : ∀ ds e F L, e ≠ .normal → e ≠ .exit id → Ex c ⟨m, ds, ro⟩ Q e F L → Ex c ⟨m, ds, ro⟩ K e F L
theorem Cx.seq {x y : Code} (h : ∀ K, Kseq P m ro c y Q K → Cx P c ⟨m, ds, ro⟩ x K F L) : Cx P c ⟨m, ds, ro⟩ (.seq x y) Q F L :=
  ⟨fun H w a hs hf d => wpIn_seq ((h (Exit.then (y.wpIn (wd ro) d P Q) Q) ⟨fun _ _ _ k => ⟨fun H w a hs hf => k.out H w a hs hf d⟩, fun _ e _ _ he k => ⟨fun H w a hs hf => by cases e <;> first | exact absurd rfl he | exact k.out H w a hs hf⟩⟩).out H w a hs hf d)⟩
theorem Ex.seq {y : Code} {K : Exit → Act → World → Prop} (hk : Kseq P m ro c y Q K) (h : Cx P c ⟨m, ds, ro⟩ y Q F L) : Ex c ⟨m, ds, ro⟩ K .normal F L := hk.norm ds F L h
theorem Ex.seq_ret {y : Code} {K : Exit → Act → World → Prop} (hk : Kseq P m ro c y Q K) (h : Ex c ⟨m, ds, ro⟩ Q .ret F L) : Ex c ⟨m, ds, ro⟩ K .ret F L := hk.other ds .ret F L (by simp) h
theorem Ex.seq_exit {y : Code} {K : Exit → Act → World → Prop} {id : Nat} (hk : Kseq P m ro c y Q K) (h : Ex c ⟨m, ds, ro⟩ Q (.exit id) F L) : Ex c ⟨m, ds, ro⟩ K (.exit id) F L := hk.other ds (.exit id) F L (by simp) h
theorem Cx.block {id : Nat} {x : Code} (h : ∀ K, Kblk m ro c id Q K → Cx P c ⟨m, ds, ro⟩ x K F L) : Cx P c ⟨m, ds, ro⟩ (.block id x) Q F L :=
  ⟨fun H w a hs hf d => wpIn_block ((h (Exit.inBlock id Q) ⟨fun _ _ _ k => ⟨fun H w a hs hf => k.out H w a hs hf⟩, fun _ _ _ k => ⟨fun H w a hs hf => by have := k.out H w a hs hf; simpa [Exit.inBlock] using this⟩,
    fun _ e _ _ h1 h2 k => ⟨fun H w a hs hf => by
      have := k.out H w a hs hf
      cases e with
      | exit id' =>
        have hne : id' ≠ id := fun e => h2 (by rw [e])
        simpa [Exit.inBlock, hne] using this
      | normal => exact absurd rfl h1
      | goto l => exact this
      | ret => exact this
      | panic ch => exact this
      | outgrown => exact this⟩⟩).out H w a hs hf d)⟩
theorem Ex.blk {id : Nat} {K : Exit → Act → World → Prop} (hk : Kblk m ro c id Q K) (h : Ex c ⟨m, ds, ro⟩ Q .normal F L) : Ex c ⟨m, ds, ro⟩ K .normal F L := hk.norm ds F L h
theorem Ex.blk_ret {id : Nat} {K : Exit → Act → World → Prop} (hk : Kblk m ro c id Q K) (h : Ex c ⟨m, ds, ro⟩ Q .ret F L) : Ex c ⟨m, ds, ro⟩ K .ret F L := hk.other ds .ret F L (by simp) (by simp) h
theorem Ex.blk_exit {id : Nat} {K : Exit → Act → World → Prop} (hk : Kblk m ro c id Q K) (h : Ex c ⟨m, ds, ro⟩ Q .normal F L) : Ex c ⟨m, ds, ro⟩ K (.exit id) F L := hk.out ds F L h
theorem Ex.blk_other {id id' : Nat} {K : Exit → Act → World → Prop} (hk : Kblk m ro c id Q K) (hne : Nat.beq id' id = false) (h : Ex c ⟨m, ds, ro⟩ Q (.exit id') F L) : Ex c ⟨m, ds, ro⟩ K (.exit id') F L :=
  hk.other ds (.exit id') F L (by simp) (by
    intro e
    injection e with e
    rw [e, Nat.beq_refl] at hne
    cases hne) h
theorem Cx.skip (h : Ex c n Q .normal F L) : Cx P c n .skip Q F L := ⟨fun H w a hs hf _ => wpIn_skip (h.out H w a hs hf)⟩
theorem Cx.ret (h : Ex c n Q .ret F L) : Cx P c n .ret Q F L := ⟨fun H w a hs hf _ => wpIn_ret (h.out H w a hs hf)⟩
theorem Cx.exit {id : Nat} (h : Ex c n Q (.exit id) F L) : Cx P c n (.exit id) Q F L := ⟨fun H w a hs hf _ => wpIn_exit (h.out H w a hs hf)⟩
theorem Fit.bool {H : Cells} {a : Act} {x : Operand} {b : Bool} (hf : Fit H n F a) (hc : oget n F x = some (.v (.bool b))) : a.eval x = .bool b := by
  exact (hf.eval hc).inv
theorem Cx.cond {x : Operand} {y z : Code} {b : Bool} (hc : oget n F x = some (.v (.bool b))) (ht : b = true → Cx P c n y Q F L) (hf : b = false → Cx P c n z Q F L) :
    Cx P c n (.cond x y z) Q F L := ⟨fun H w a hs hF d => wpIn_cond_split (hF.bool hc) (fun e => (ht e).out H w a hs hF d) (fun e => (hf e).out H w a hs hF d)⟩
theorem Cx.cond_t {x : Operand} {y z : Code} (hc : oget n F x = some (.v (.bool true))) (ht : Cx P c n y Q F L) : Cx P c n (.cond x y z) Q F L :=
  ⟨fun H w a hs hF d => wpIn_cond_true (hF.bool hc) (ht.out H w a hs hF d)⟩
theorem Cx.cond_f {x : Operand} {y z : Code} (hc : oget n F x = some (.v (.bool false))) (ht : Cx P c n z Q F L) : Cx P c n (.cond x y z) Q F L :=
  ⟨fun H w a hs hF d => wpIn_cond_false (hF.bool hc) (ht.out H w a hs hF d)⟩
theorem Cx.region {id : Nat} {l : List Oper} (hd : l.all (fun o => noDef o.op) = true) (h : Lx P c n l.toArray Q l F L) : Cx P c n (.region id l.toArray false) Q F L :=
  ⟨fun H w a hs hF _ => wpIn_region (wpOps_in (noDef_get hd) _ _ _ (by
    have h' := h.out H w a hs hF
    rw [← wpOps_eq_wpList l 0 (by simp)] at h'
    rw [List.range_eq_range']
    simpa using h'))⟩
theorem Lx.nil (h : Ex c n Q .normal F L) : Lx P c n ops Q [] F L := ⟨fun H w a hs hF => wpList_nil (h.out H w a hs hF)⟩

/-! ghost steps -/
theorem Cx.see {x : Code} (s : Nat) {a b : AV} (h : look F s = some a) (hs : Sb L a b) (k : Cx P c n x Q ((s, b) :: F) L) : Cx P c n x Q F L :=
  ⟨fun H w ac hst hF d => k.out H w ac hst ⟨hF.ds, hF.size, fun t y ht hn => by
    by_cases e : s = t
    · subst e
      rw [look_cons_self] at ht
      cases ht
      obtain ⟨v, h1, h2⟩ := hF.rel s a h hn
      exact ⟨v, h1, hs.rel hst h2⟩
    · rw [look_cons_ne _ _ e] at ht; exact hF.rel t y ht hn⟩ d⟩
theorem Ex.see {x : Exit} (s : Nat) {a b : AV} (h : look F s = some a) (hs : Sb L a b) (k : Ex c n Q x ((s, b) :: F) L) : Ex c n Q x F L :=
  ⟨fun H w ac hst hF => k.out H w ac hst ⟨hF.ds, hF.size, fun t y ht hn => by
    by_cases e : s = t
    · subst e
      rw [look_cons_self] at ht
      cases ht
      obtain ⟨v, h1, h2⟩ := hF.rel s a h hn
      exact ⟨v, h1, hs.rel hst h2⟩
    · rw [look_cons_ne _ _ e] at ht; exact hF.rel t y ht hn⟩⟩
theorem Cx.know {x : Code} (s : Nat) {a b : AV} (h : look F s = some a) (hs : a = b) (k : Cx P c n x Q ((s, b) :: F) L) : Cx P c n x Q F L := Cx.see s h (by rw [hs]; exact .refl _) k
theorem Ex.know {x : Exit} (s : Nat) {a b : AV} (h : look F s = some a) (hs : a = b) (k : Ex c n Q x ((s, b) :: F) L) : Ex c n Q x F L := Ex.see s h (by rw [hs]; exact .refl _) k
theorem Cx.frzR {x : Code} (i : Nat) {v : Value} {t : TypeId} {size m : Nat} {z : Bool} {xs : List AV} (hL : L[i]? = some (.row v t size m z xs)) (k : Cx P c n x Q F (L.set i (.row v t size xs.length true xs))) : Cx P c n x Q F L :=
  ⟨fun _ w a hs hF d => let ⟨H', hl, hs'⟩ := hs.freezeRow hL; k.out H' w a hs' (hF.mono hl) d⟩
theorem Ex.frzR {x : Exit} (i : Nat) {v : Value} {t : TypeId} {size m : Nat} {z : Bool} {xs : List AV} (hL : L[i]? = some (.row v t size m z xs)) (k : Ex c n Q x F (L.set i (.row v t size xs.length true xs))) : Ex c n Q x F L :=
  ⟨fun _ w a hs hF => let ⟨H', hl, hs'⟩ := hs.freezeRow hL; k.out H' w a hs' (hF.mono hl)⟩
theorem Lx.frzR {l : List Oper} (i : Nat) {v : Value} {t : TypeId} {size m : Nat} {z : Bool} {xs : List AV} (hL : L[i]? = some (.row v t size m z xs)) (k : Lx P c n ops Q l F (L.set i (.row v t size xs.length true xs))) : Lx P c n ops Q l F L :=
  ⟨fun _ w a hs hF => let ⟨H', hl, hs'⟩ := hs.freezeRow hL; k.out H' w a hs' (hF.mono hl)⟩
theorem Cx.frzB {x : Code} (i : Nat) {g : Nat} {t : TypeId} {z : Bool} {cs : List AV} (hL : L[i]? = some (.blk g t z cs)) (k : Cx P c n x Q F (L.set i (.blk g t true cs))) : Cx P c n x Q F L :=
  ⟨fun _ w a hs hF d => let ⟨H', hl, hs', _⟩ := hs.freezeBlk hL; k.out H' w a hs' (hF.mono hl) d⟩
theorem Ex.frzB {x : Exit} (i : Nat) {g : Nat} {t : TypeId} {z : Bool} {cs : List AV} (hL : L[i]? = some (.blk g t z cs)) (k : Ex c n Q x F (L.set i (.blk g t true cs))) : Ex c n Q x F L :=
  ⟨fun _ w a hs hF => let ⟨H', hl, hs', _⟩ := hs.freezeBlk hL; k.out H' w a hs' (hF.mono hl)⟩
theorem Lx.frzB {l : List Oper} (i : Nat) {g : Nat} {t : TypeId} {z : Bool} {cs : List AV} (hL : L[i]? = some (.blk g t z cs)) (k : Lx P c n ops Q l F (L.set i (.blk g t true cs))) : Lx P c n ops Q l F L :=
  ⟨fun _ w a hs hF => let ⟨H', hl, hs', _⟩ := hs.freezeBlk hL; k.out H' w a hs' (hF.mono hl)⟩
theorem Cx.weak {x : Code} (G : Fr) {L' : List Ent} (hG : ∀ s y, look G s = some y → look F s = some y) (hL : L'.Sublist L) (k : Cx P c n x Q G L') : Cx P c n x Q F L :=
  ⟨fun H w a hs hF d => k.out H w a (hs.sub hL) (hF.weak hG) d⟩
theorem Ex.weak {x : Exit} (G : Fr) {L' : List Ent} (hG : ∀ s y, look G s = some y → look F s = some y) (hL : L'.Sublist L) (k : Ex c n Q x G L') : Ex c n Q x F L :=
  ⟨fun H w a hs hF => k.out H w a (hs.sub hL) (hF.weak hG)⟩
/-- a nil slice may be appended to -/
theorem St.nilrow {H : Cells} {w : World} (h : St c H w L) (t : TypeId) (size : Nat) : St c H w (.row (.slice none 0 0) t size 0 false [] :: L) :=
  ⟨h.below, h.le, h.hin, h.old, by
    intro e he
    rcases List.mem_cons.1 he with rfl | he
    · exact ⟨[], ⟨by simp, .inl ⟨rfl, rfl⟩⟩, .nil, by simp, by simp, fun g hg => by simp [Value.ownBlock] at hg, fun h => by cases h⟩
    · exact h.holds e he, List.pairwise_cons.2 ⟨fun b _ g hg => by simp [Ent.own, Value.ownBlock] at hg, h.apart⟩, h.dr⟩
theorem Cx.nilrow {x : Code} (t : TypeId) (size : Nat) (k : Cx P c n x Q F (.row (.slice none 0 0) t size 0 false [] :: L)) : Cx P c n x Q F L := ⟨fun H w a hs hF d => k.out H w a (hs.nilrow t size) hF d⟩
theorem Lx.nilrow {l : List Oper} (t : TypeId) (size : Nat) (k : Lx P c n ops Q l F (.row (.slice none 0 0) t size 0 false [] :: L)) : Lx P c n ops Q l F L := ⟨fun H w a hs hF => k.out H w a (hs.nilrow t size) hF⟩

/-! a cut: what stands behind a piece of code is shown once -/
structure Kcut (m : Nat) (ro : Option Nat) (c : Ctx) (σ : Type) (p : σ → Prop) (G : σ → Fr) (M : σ → List Ent) (Q K : Exit → Act → World → Prop) : Prop where
  norm : ∀ ds F L s, p s → (∀ t y, look (G s) t = some y → look F t = some y) → (M s).Sublist L → Ex c ⟨m, ds, ro⟩ K .normal F L
  other : ∀ ds e F L, e ≠ .normal → Ex c ⟨m, ds, ro⟩ Q e F L → Ex c ⟨m, ds, ro⟩ K e F L

/-! guards -/
def gslot (ops : Array Oper) (j : Nat) : Option Nat := (ops[j]?).bind (·.dst)
def wantV : AV → Bool → Option Bool
  | .v (.bool x), true => some x
  | .v (.bool x), false => some (!x)
  | .opt y (.v (.bool x)), true => some (y && x)
  | .opt y (.v (.bool x)), false => some (y && !x)
  | .v (.tuple _), _ => some false
  | _, _ => none
def wantF (ops : Array Oper) (n : Nat) (φ : Nat → Option AV) : Option (Nat × Bool) → Option Bool
  | none => some true
  | some (j, b) => match gslot ops j with
    | some d => match Nat.blt d n with
      | true => match φ d with
        | some a => wantV a b
        | none => none
      | false => none
    | none => none
def wantB (ops : Array Oper) (n : Cfg) (F : Fr) (g : Option (Nat × Bool)) : Option Bool := wantF ops n.n (look F) g
theorem wanted_fit {H : Cells} {φ : Nat → Option AV} {a : Act} {o : Oper} {b : Bool} (_hsz : a.tmps.size = n.n) (hF : ∀ s x, φ s = some x → s < n.n → ∃ v, a.tmps[s]? = some v ∧ Rel H x v) (h : wantF ops n.n φ o.guard = some b) : Region.wanted o (yielded ops a.tmps) = b := by
  unfold Region.wanted
  cases hg : o.guard with
  | none => rw [hg] at h; simp only [wantF, Option.some.injEq] at h; exact h
  | some jb =>
    obtain ⟨j, want⟩ := jb
    rw [hg] at h
    simp only [wantF, gslot] at h
    unfold yielded
    cases hd : (ops[j]?).bind (·.dst) with
    | none => rw [hd] at h; cases h
    | some d =>
      rw [hd] at h
      simp only at h
      split at h
      · rename_i hb
        have hlt : d < n.n := by simpa [Nat.blt_eq] using hb
        split at h
        · rename_i x hl
          obtain ⟨v, h1, h2⟩ := hF d _ hl hlt
          unfold wantV at h
          split at h
          · cases h; cases h2; simp only [hd, Option.bind_some, h1]; cases b <;> rfl
          · rename_i x
            cases h; cases h2; simp only [hd, Option.bind_some, h1]; cases x <;> rfl
          · rename_i y x
            obtain ⟨k1, k2⟩ := h2.inv_opt
            cases h
            cases y with
            | true => have := (k1 rfl).inv; subst this; simp only [hd, Option.bind_some, h1]; cases x <;> rfl
            | false => have := k2 rfl; subst this; simp only [hd, Option.bind_some, h1]; rfl
          · rename_i y x
            obtain ⟨k1, k2⟩ := h2.inv_opt
            cases h
            cases y with
            | true => have := (k1 rfl).inv; subst this; simp only [hd, Option.bind_some, h1]; cases x <;> rfl
            | false => have := k2 rfl; subst this; simp only [hd, Option.bind_some, h1]; rfl
          · cases h; cases h2; simp only [hd, Option.bind_some, h1]; rfl
          · cases h
        · cases h
      · cases h

/-! operations that leave the local heap alone -/
def Reads (H : Cells) (n : Cfg) (F : Fr) (xs : Array Operand) (ρ : Operand → Value) : Prop := ∀ x ∈ xs, ∀ av, oget n F x = some av → Rel H av (ρ x)
def GrowsTo (P : Program) (H : Cells) (w : World) (r : AV) : Result Next → Prop
  | .ok (.value v) w' => ∃ H', St ⟨w, H⟩ H' w' [] ∧ Rel H' r v
  | .ok (.enter f args) w' => w' = w ∧ Calls P f args w fun e w'' => ∃ v H', e = .returned v ∧ St ⟨w, H⟩ H' w'' [] ∧ Rel H' r v
  | _ => False
structure Gr (P : Program) (c : Ctx) (n : Cfg) (o : Op) (ty : TypeId) (F : Fr) (L : List Ent) (r : AV) : Prop where
  out : ∀ H w ρ, St c H w L → Reads H n F o.operands ρ → ∀ d pos aft g, GrowsTo P H w r ((execOp ρ ⟨d, o, ty, pos, aft, g⟩).run P w)
theorem Gr.pure {o : Op} {ty : TypeId} {r : AV} (h : ∀ H w ρ, St c H w L → Reads H n F o.operands ρ → ∀ d pos aft g, ∃ v, (execOp ρ ⟨d, o, ty, pos, aft, g⟩).run P w = .ok (.value v) w ∧ Rel H r v) : Gr P c n o ty F L r :=
  ⟨fun H w ρ hs hr d pos aft g => by obtain ⟨v, h1, h2⟩ := h H w ρ hs hr d pos aft g; rw [h1]; exact ⟨H, St.refl hs.hin, h2⟩⟩
theorem Gr.ofEq {o : Op} {ty : TypeId} {r r' : AV} (h : Gr P c n o ty F L r) (e : r = r') : Gr P c n o ty F L r' := by subst e; exact h
variable {d : Option Tmp} {o : Op} {ty : TypeId} {pos : String} {aft : Array Edge} {g : Option (Nat × Bool)} {rest : List Oper}
theorem Fit.reads {H : Cells} {a : Act} (hF : Fit H n F a) (xs : Array Operand) : Reads H n F xs a.eval := fun _ _ _ hx => hF.eval hx
theorem oper_wp_grows {H : Cells} {w : World} {r : AV} {a : Act} {oo : Oper} {K : Act → World → Prop} {Q' : Exit → Act → World → Prop} (hst : St c H w L) (h : GrowsTo P H w r ((execOp a.eval oo).run P w)) (k : ∀ H' w' v, H.le H' → St c H' w' L → Rel H' r v → K (a.put oo.dst v) w') : oo.wp P a w K Q' := by
  unfold Oper.wp
  generalize (execOp a.eval oo).run P w = res at *
  cases res with
  | ok nx w' =>
    cases nx <;> simp only [GrowsTo] at h <;> simp only [Oper.upon]
    case value u => obtain ⟨H', h1, h2⟩ := h; exact k H' _ u h1.le (by have := hst.trans h1; simpa using this) h2
    case enter f args =>
      obtain ⟨rfl, hc⟩ := h
      refine Calls.mono hc ?_
      rintro e w'' ⟨v, H', rfl, h2, h3⟩
      exact k H' w'' v h2.le (by have := hst.trans h2; simpa using this) h3
  | halt x w' => simp only [GrowsTo] at h
theorem Lx.gr {r : AV} (hg : wantB ops n F g = some true) (h : Gr P c n o ty F L r) (k : Lx P c n ops Q rest (putF d r F) L) : Lx P c n ops Q (⟨d, o, ty, pos, aft, g⟩ :: rest) F L :=
  ⟨fun H w a hs hF => by
    refine wpList_step fun K hK => ?_
    rw [if_pos (wanted_fit (o := ⟨d, o, ty, pos, aft, g⟩) hF.size hF.rel hg)]
    exact oper_wp_grows hs (h.out H w a.eval hs (hF.reads _) d pos aft g) fun H' w' v hl hs' hr => hK _ _ (k.out H' w' _ hs' ((hF.mono hl).put hr d))⟩
theorem Fit.putW {H : Cells} {a : Act} {r : AV} {w : Bool} {v : Value} (hF : Fit H n F a) (h : w = true → Rel H r v) (h' : w = false → v = undef) (d : Option Tmp) : Fit H n (putF d (.opt w r) F) (a.put d v) := hF.put (.opt h h') d
/-- an operation whose guard is not known: what it leaves, if it is wanted -/
theorem Lx.grW {r : AV} {b : Bool} (hg : wantB ops n F g = some b) (h : b = true → Gr P c n o ty F L r) (k : Lx P c n ops Q rest (putF d (.opt b r) F) L) : Lx P c n ops Q (⟨d, o, ty, pos, aft, g⟩ :: rest) F L :=
  ⟨fun H w a hs hF => by
    refine wpList_step fun K hK => ?_
    have hw := wanted_fit (o := ⟨d, o, ty, pos, aft, g⟩) hF.size hF.rel hg
    cases b with
    | true =>
      rw [if_pos hw]
      exact oper_wp_grows hs ((h rfl).out H w a.eval hs (hF.reads _) d pos aft g) fun H' w' v hl hs' hr => hK _ _ (k.out H' w' _ hs' ((hF.mono hl).putW (fun _ => hr) (fun e => by cases e) d))
    | false =>
      rw [if_neg (by rw [hw]; simp)]
      exact hK _ _ (k.out H w _ hs (hF.putW (fun e => by cases e) (fun _ => rfl) d))⟩
theorem Lx.skip (hg : wantB ops n F g = some false) (k : Lx P c n ops Q rest (putF d (.v undef) F) L) : Lx P c n ops Q (⟨d, o, ty, pos, aft, g⟩ :: rest) F L :=
  ⟨fun H w a hs hF => by
    refine wpList_step fun K hK => ?_
    rw [if_neg (by rw [wanted_fit (o := ⟨d, o, ty, pos, aft, g⟩) hF.size hF.rel hg]; simp)]
    exact hK _ _ (k.out H w _ hs (hF.put (.v _) d))⟩
theorem Fit.shadow {H : Cells} {a : Act} {s : Nat} {x : AV} (hF : Fit H n F a) (h : look F s = some x) : Fit H n ((s, x) :: F) a :=
  hF.weak fun t y ht => by
    by_cases e : s = t
    · subst e; rw [look_cons_self] at ht; rw [h, ht]
    · rwa [look_cons_ne _ _ e] at ht
/-- part on a Bool that a slot holds -/
theorem Lx.split {l : List Oper} (s : Nat) {b : Bool} (hv : look F s = some (.v (.bool b))) (ht : b = true → Lx P c n ops Q l ((s, .v (.bool true)) :: F) L) (hf : b = false → Lx P c n ops Q l ((s, .v (.bool false)) :: F) L) : Lx P c n ops Q l F L :=
  ⟨fun H w a hs hF => by
    cases b with
    | true => exact (ht rfl).out H w a hs (hF.shadow hv)
    | false => exact (hf rfl).out H w a hs (hF.shadow hv)⟩
theorem Cx.split {x : Code} (s : Nat) {b : Bool} (hv : look F s = some (.v (.bool b))) (ht : b = true → Cx P c n x Q ((s, .v (.bool true)) :: F) L) (hf : b = false → Cx P c n x Q ((s, .v (.bool false)) :: F) L) : Cx P c n x Q F L :=
  ⟨fun H w a hs hF d => by
    cases b with
    | true => exact (ht rfl).out H w a hs (hF.shadow hv) d
    | false => exact (hf rfl).out H w a hs (hF.shadow hv) d⟩

/-! entering and leaving a function -/
def argF : Nat → List AV → Fr
  | _, [] => []
  | i, v :: vs => (i, v) :: argF (i + 1) vs
theorem look_argF (vs : List AV) : ∀ i j, look (argF i vs) j = if i ≤ j then vs[j - i]? else none := by
  induction vs with
  | nil => intro i j; simp [argF, look]
  | cons v vs ih =>
    intro i j
    simp only [argF]
    by_cases h : i = j
    · subst h; rw [look_cons_self]; simp
    · rw [look_cons_ne v _ h, ih]
      by_cases h1 : i ≤ j
      · rw [if_pos h1, if_pos (by omega)]
        obtain ⟨m, rfl⟩ : ∃ m, j = i + 1 + m := ⟨j - i - 1, by omega⟩
        rw [show i + 1 + m - (i + 1) = m by omega, show i + 1 + m - i = m + 1 by omega]
        simp
      · rw [if_neg h1, if_neg (by omega)]
def Post (c : Ctx) (Φ : AV → List Ent → Prop) : Ending → World → Prop := fun e w' => ∃ v a H' E, e = .returned v ∧ Φ a E ∧ Rel H' a v ∧ St c H' w' E
structure Ktop (P : Program) (c : Ctx) (m : Nat) (fn : Func) (Φ : AV → List Ent → Prop) (K : Exit → Act → World → Prop) : Prop where
  out : ∀ e F L, Ex c ⟨m, [], none⟩ (bodyPost P fn (Post c Φ)) e F L → Ex c ⟨m, [], none⟩ K e F L
theorem fit_args {H : Cells} {args : List AV} {vs : List Value} (h : RelL H args vs) (hm : vs.length ≤ m) (ro : Option Nat) : Fit H ⟨m, [], ro⟩ (argF 0 args) ⟨vs.toArray ++ Array.replicate (m - vs.toArray.size) undef, []⟩ := by
  refine ⟨rfl, by simp; omega, fun s x hs _ => ?_⟩
  rw [look_argF] at hs
  simp only [Nat.zero_le, if_true, Nat.sub_zero] at hs
  obtain ⟨v, h1, h2⟩ := h.get hs
  refine ⟨v, ?_, h2⟩
  have hlt := (List.getElem?_eq_some_iff.1 h1).1
  rw [Array.getElem?_append_left (by simpa using hlt)]
  simpa using h1
theorem fn_of {f : FuncId} {fn : Func} {x : Code} {args : List AV} {Φ : AV → List Ent → Prop} (hf : P.funcs[f]? = some fn) (hb : fn.body = some x) (hn : fn.ntmps = m) (ha : Nat.ble args.length m = true)
    (h : ∀ c K, Ktop P c m fn Φ K → Cx P c ⟨m, [], none⟩ x K (argF 0 args) []) : FnE P f args Φ := by
  have ha : args.length ≤ m := Nat.le_of_ble_eq_true ha
  refine ⟨fun H w vs hi hr => calls_of_wp hf hb ?_⟩
  rw [hn]
  exact wpIn_wide.1 ((h ⟨w, H⟩ _ ⟨fun _ _ _ k => k⟩).out H w _ (St.refl hi) (fit_args hr (by rw [← hr.len]; exact ha) none) 0)
def rvSem (tmps : Array Value) (r : ResultVar) : Sem Value :=
  match r with
  | .tmp t => pure (tmps.getD t undef)
  | .cell a t => do loadVar t (← asAddr (tmps.getD a undef))
theorem results_rv (fn : Func) (tmps : Array Value) : results fn tmps = (do let vs ← fn.results.mapM (rvSem tmps); pure (if h : vs.size = 1 then vs[0] else .tuple vs)) := by
  unfold results
  congr 1
/-- the value of a result variable -/
structure Rv (P : Program) (c : Ctx) (n : Cfg) (r : ResultVar) (F : Fr) (L : List Ent) (x : AV) : Prop where
  out : ∀ H w a, St c H w L → Fit H n F a → ∃ v, (rvSem a.tmps r).run P w = .ok v w ∧ Rel H x v
theorem Rv.tmp {t : Tmp} {x : AV} (h : oget n F (.tmp t) = some x) : Rv P c n (.tmp t) F L x := ⟨fun H w a _ hF => by
  have := hF.eval h
  exact ⟨_, rfl, this⟩⟩
theorem Rv.see {r : ResultVar} {x y : AV} (h : Rv P c n r F L x) (hs : Sb L x y) : Rv P c n r F L y := ⟨fun H w a hst hF => by
  obtain ⟨v, h1, h2⟩ := h.out H w a hst hF
  exact ⟨v, h1, hs.rel hst h2⟩⟩
variable {fn : Func} {Φ : AV → List Ent → Prop} {K : Exit → Act → World → Prop}
theorem Ex.res1 {r : ResultVar} {x : AV} (hk : Ktop P c m fn Φ K) (hr : fn.results = #[r]) (h1 : Rv P c ⟨m, [], none⟩ r F L x) (E : List Ent) (hE : E.Sublist L) (h : Φ x E) : Ex c ⟨m, [], none⟩ K .ret F L :=
  hk.out .ret F L ⟨fun H w a hs hF => by
    obtain ⟨v, e1, r1⟩ := h1.out H w a hs hF
    exact bodyPost_ret (v := v) (by rw [results_rv, hr]; simp [e1]) hF.ds ⟨v, x, H, E, rfl, h, r1, hs.sub hE⟩⟩
theorem Ex.res2 {r r' : ResultVar} {x x' : AV} (hk : Ktop P c m fn Φ K) (hr : fn.results = #[r, r']) (h1 : Rv P c ⟨m, [], none⟩ r F L x) (h2 : Rv P c ⟨m, [], none⟩ r' F L x') (E : List Ent) (hE : E.Sublist L) (h : Φ (.tup [x, x']) E) : Ex c ⟨m, [], none⟩ K .ret F L :=
  hk.out .ret F L ⟨fun H w a hs hF => by
    obtain ⟨v, e1, r1⟩ := h1.out H w a hs hF
    obtain ⟨v', e2, r2⟩ := h2.out H w a hs hF
    exact bodyPost_ret (v := .tuple #[v, v']) (by rw [results_rv, hr]; simp [e1, e2]) hF.ds ⟨_, _, H, E, rfl, h, .tup (.cons r1 (.cons r2 .nil)), hs.sub hE⟩⟩
theorem Ex.res3 {r r' r'' : ResultVar} {x x' x'' : AV} (hk : Ktop P c m fn Φ K) (hr : fn.results = #[r, r', r'']) (h1 : Rv P c ⟨m, [], none⟩ r F L x) (h2 : Rv P c ⟨m, [], none⟩ r' F L x') (h3 : Rv P c ⟨m, [], none⟩ r'' F L x'') (E : List Ent) (hE : E.Sublist L) (h : Φ (.tup [x, x', x'']) E) : Ex c ⟨m, [], none⟩ K .ret F L :=
  hk.out .ret F L ⟨fun H w a hs hF => by
    obtain ⟨v, e1, r1⟩ := h1.out H w a hs hF
    obtain ⟨v', e2, r2⟩ := h2.out H w a hs hF
    obtain ⟨v'', e3, r3⟩ := h3.out H w a hs hF
    exact bodyPost_ret (v := .tuple #[v, v', v'']) (by rw [results_rv, hr]; simp [e1, e2, e3]) hF.ds ⟨_, _, H, E, rfl, h, .tup (.cons r1 (.cons r2 (.cons r3 .nil))), hs.sub hE⟩⟩
theorem Ex.res0 (hk : Ktop P c m fn Φ K) (hr : fn.results = #[]) (E : List Ent) (hE : E.Sublist L) (h : Φ (.tup []) E) : Ex c ⟨m, [], none⟩ K .ret F L :=
  hk.out .ret F L ⟨fun H _ _ hs hF => bodyPost_ret (v := .tuple #[]) (results_none hr _ _ _) hF.ds ⟨_, _, H, E, rfl, h, .tup .nil, hs.sub hE⟩⟩
theorem Ex.end0 (hk : Ktop P c m fn Φ K) (hr : fn.results = #[]) (E : List Ent) (hE : E.Sublist L) (h : Φ (.tup []) E) : Ex c ⟨m, [], none⟩ K .normal F L :=
  hk.out .normal F L ⟨fun H _ _ hs hF => bodyPost_end (v := .tuple #[]) (results_none hr _ _ _) hF.ds ⟨_, _, H, E, rfl, h, .tup .nil, hs.sub hE⟩⟩

/-! loops -/
def cutF (ms : List Nat) (F : Fr) : Fr := F.filter fun p => !ms.contains p.1
theorem look_append (F G : Fr) (i : Nat) : look (F ++ G) i = (look F i).or (look G i) := by
  induction F with
  | nil => simp [look]
  | cons x F ih =>
    obtain ⟨d, v⟩ := x
    by_cases h : d = i
    · subst h; simp [look_cons_self]
    · rw [List.cons_append, look_cons_ne v _ h, look_cons_ne v _ h, ih]
theorem look_cutF (ms : List Nat) (F : Fr) (s : Nat) : look (cutF ms F) s = if s ∈ ms then none else look F s := by
  induction F with
  | nil => simp [cutF, look]
  | cons x F ih =>
    obtain ⟨d, v⟩ := x
    unfold cutF at ih ⊢
    by_cases hd : d ∈ ms
    · rw [List.filter_cons_of_neg (by simpa using hd), ih]
      by_cases hs : s ∈ ms
      · simp [hs]
      · have : d ≠ s := fun e => hs (e ▸ hd)
        simp [hs, look_cons_ne _ _ this]
    · rw [List.filter_cons_of_pos (by simpa using hd)]
      by_cases hs : d = s
      · subst hs; simp [look_cons_self, hd]
      · rw [look_cons_ne _ _ hs, ih, look_cons_ne _ _ hs]
/-- F says all that G says -/
def Says (F G : Fr) : Prop := ∀ s x, look G s = some x → look F s = some x
theorem Says.nil : Says F [] := fun s x h => by simp [look] at h
theorem Says.cons {G : Fr} {s : Nat} {x : AV} (h : look F s = some x) (t : Says F G) : Says F ((s, x) :: G) := fun i y hy => by
  by_cases e : s = i
  · subst e; rw [look_cons_self] at hy; rw [h]; exact hy
  · rw [look_cons_ne _ _ e] at hy; exact t i y hy
structure Kloop (c : Ctx) (n : Cfg) (F0 : Fr) {σ : Type} (p : σ → Prop) (I : σ → Fr) (J : σ → List Ent) (μ : σ → Nat) (s : σ) (Q K : Exit → Act → World → Prop) : Prop where
  norm : ∀ F L s', p s' → μ s' < μ s → Says F (I s' ++ F0) → (J s').Sublist L → Ex c n K .normal F L
  other : ∀ ds e F L, e ≠ .normal → Ex c ⟨n.n, ds, n.ro⟩ Q e F L → Ex c ⟨n.n, ds, n.ro⟩ K e F L
theorem Cx.loopS {x : Code} {σ : Type} (p : σ → Prop) (I : σ → Fr) (J : σ → List Ent) (μ : σ → Nat) (s0 : σ) (F0 : Fr) (hF0 : Says F F0) (hp : p s0) (h0 : Says F (I s0)) (hL0 : (J s0).Sublist L)
    (round : ∀ s, p s → ∀ K, Kloop c n F0 p I J μ s Q K → Cx P c n x K (I s ++ F0) (J s)) : Cx P c n (.loop x) Q F L :=
  ⟨fun H w a hs hF d => by
    have hw : ∀ {F' : Fr} {s : σ}, Says F' (I s) → (∀ t y, look F0 t = some y → look F' t = some y) → Says F' (I s ++ F0) := fun h1 h2 t y ht => by
      rw [look_append] at ht
      cases hI : look (I _) t with
      | some z => rw [hI] at ht; simp only [Option.some_or, Option.some.injEq] at ht; subst ht; exact h1 t _ hI
      | none => rw [hI] at ht; simp only [Option.none_or] at ht; exact h2 t y ht
    refine wpIn_loop_ghost (fun k a w => ∃ H s, μ s = k ∧ p s ∧ St c H w (J s) ∧ Fit H n (I s ++ F0) a) (μ s0) ⟨H, s0, rfl, hp, hs.sub hL0, hF.weak (hw h0 fun t y ht => ?_)⟩ ?_
    · exact hF0 t y ht
    · rintro k a w ⟨H, s, rfl, hps, hS, hFF⟩
      refine wpIn_mono ((round s hps (Exit.then (fun a' w' => ∃ H s', μ s' < μ s ∧ p s' ∧ St c H w' (J s') ∧ Fit H n (I s' ++ F0) a') Q) ⟨fun F L s' h1 h2 h3 h4 => ⟨fun H w a hs hF => ⟨H, s', h2, h1, hs.sub h4, hF.weak h3⟩⟩, fun _ e _ _ he k => ⟨fun H w a hs hF => by cases e <;> first | exact absurd rfl he | exact k.out H w a hs hF⟩⟩).out H w a hS hFF d) ?_
      intro e a' w' hq
      cases e with
      | normal =>
        obtain ⟨H, s', hlt, h2, h3, h4⟩ := hq
        exact ⟨μ s', hlt, H, s', rfl, h2, h3, h4⟩
      | exit id => exact hq
      | goto l => exact hq
      | ret => exact hq
      | panic ch => exact hq
      | outgrown => exact hq⟩
theorem Cx.loop {x : Code} {σ : Type} (ms : List Nat) (p : σ → Prop) (I : σ → Fr) (J : σ → List Ent) (μ : σ → Nat) (s0 : σ) (F0 : Fr) (hF0 : cutF ms F = F0) (hp : p s0) (h0 : Says F (I s0)) (hL0 : (J s0).Sublist L)
    (round : ∀ s, p s → ∀ K, Kloop c n F0 p I J μ s Q K → Cx P c n x K (I s ++ F0) (J s)) : Cx P c n (.loop x) Q F L :=
  Cx.loopS p I J μ s0 F0 (fun t y ht => by
    rw [← hF0, look_cutF] at ht
    split at ht
    · cases ht
    · exact ht) hp h0 hL0 round
variable {σ : Type} {p : σ → Prop} {I : σ → Fr} {J : σ → List Ent} {μ : σ → Nat} {s : σ} {F0 : Fr}
theorem Ex.loop_ret (hk : Kloop c n F0 p I J μ s Q K) (h : Ex c n Q .ret F L) : Ex c n K .ret F L := hk.other n.ds .ret F L (by simp) h
theorem Ex.loop_exit {id : Nat} (hk : Kloop c n F0 p I J μ s Q K) (h : Ex c n Q (.exit id) F L) : Ex c n K (.exit id) F L := hk.other n.ds (.exit id) F L (by simp) h
/-- the round's end; A: what stands ahead of the old frame -/
theorem says_next {A : Fr} {ms : List Nat} {G : Fr} (hA : (A.all fun q => ms.contains q.1) = true) (hG : (G.all fun q => !ms.contains q.1) = true) : ∀ t y, look G t = some y → look (A ++ G) t = some y := fun t y ht => by
  rw [look_append]
  have hk : ∀ {X : Fr} {z : AV}, look X t = some z → ∃ q ∈ X, q.1 = t := fun {X z} h => by
    induction X with
    | nil => simp [look] at h
    | cons q X ih =>
      obtain ⟨d, v⟩ := q
      by_cases e : d = t
      · exact ⟨(d, v), by simp, e⟩
      · rw [look_cons_ne _ _ e] at h
        obtain ⟨q, hq, e⟩ := ih h
        exact ⟨q, by simp [hq], e⟩
  cases hA' : look A t with
  | none => simpa using ht
  | some z =>
    obtain ⟨q, hq, e⟩ := hk hA'
    obtain ⟨q', hq', e'⟩ := hk ht
    have h1 := List.all_eq_true.1 hA q hq
    have h2 := List.all_eq_true.1 hG q' hq'
    rw [e] at h1
    rw [e', h1] at h2
    cases h2
theorem Ex.next (hk : Kloop c n F0 p I J μ s Q K) (s' : σ) (ms : List Nat) (hd : F.drop (F.length - F0.length) = F0) (hA : ((F.take (F.length - F0.length)).all fun q => ms.contains q.1) = true) (hG : (F0.all fun q => !ms.contains q.1) = true)
    (hp : p s') (hμ : μ s' < μ s) (hI : Says F (I s')) (hL : (J s').Sublist L) : Ex c n K .normal F L :=
  hk.norm F L s' hp hμ (fun t y ht => by
    rw [look_append] at ht
    cases hI' : look (I s') t with
    | some z => rw [hI'] at ht; simp only [Option.some_or, Option.some.injEq] at ht; subst ht; exact hI t _ hI'
    | none =>
      rw [hI'] at ht
      simp only [Option.none_or] at ht
      have h1 := says_next hA hG t y ht
      have h2 := List.take_append_drop (F.length - F0.length) F
      rw [hd] at h2
      rwa [h2] at h1) hL
end rules
end Go.E2
