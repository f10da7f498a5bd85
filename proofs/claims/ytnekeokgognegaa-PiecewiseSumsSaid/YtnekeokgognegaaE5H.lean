/-
  The engine, texts RT, RU.
  Conditions: none beyond the premises of each rule.
-/
import Derived.Test.YtnekeokgognegaaE5D
import Derived.Test.YtnekeokgognegaaE5E
namespace Go.E2
open Go.RowKit
abbrev Buf (g d cap : Nat) : Value := .slice (some ⟨g, 0, none⟩) d cap
section
variable {P : Program} {T : Tr} {c : Ctx} {n : Cfg} {ops : Array Oper} {F : Fr} {L : List Ent} {w : Bool} {k : AV → Prop} [hT : TabOK P T]
variable {d : Option Tmp} {ty : TypeId} {pos : String} {aft : Array Edge}
/-- a method bound to its receiver -/
theorem Gr.bound {fn : Go.Fn} {xs : List Operand} {vs : List Value} (h : ogets n F xs = some (vs.map .v)) : Gr P c n (.makeFunc fn xs.toArray #[]) ty F L (.v (.func fn vs.toArray #[])) :=
  .pure fun H w ρ hs hr d pos aft _ => by
    have h1 := (hr.list (fun y hy => by simp [Op.operands, hy]) h)
    have h2 : xs.map ρ = vs := by
      have key : ∀ {vs us : List Value}, RelL H (vs.map AV.v) us → us = vs := by
        intro vs
        induction vs with
        | nil => intro us h; cases h; rfl
        | cons v vs ih => intro us h; cases h with | cons h t => rw [h.inv, ih t]
      exact key h1
    exact ⟨.func fn vs.toArray #[], by simp [execOp, Instr.makeFunc, h2], .v _⟩
/-- a call of a bound method over the local heap -/
theorem Lx.callB {Q : Exit → Act → World → Prop} {rest : List Oper} {gd : Option (Nat × Bool)} {f : FuncId} {x : Operand} {xs : List Operand} {first : List Value} {as1 as2 : List AV} {ts : Array TypeId} {Φ : AV → List Ent → Prop} (hf : EntersT P f) (hg : wantB ops n F gd = some true) (hx : oget n F x = some (.v (.func (.func f) first.toArray #[]))) (hv : ogets n F xs = some as1) (hsb : SbL L as1 as2) (hc : FnL P c f (first.map .v ++ as2) L Φ)
    (k : ∀ a L', Φ a L' → Lx P c n ops Q rest (putF d a F) L') : Lx P c n ops Q (⟨d, .call ⟨.value x, xs.toArray, ts⟩, ty, pos, aft, gd⟩ :: rest) F L :=
  ⟨fun H w a hs hF => by
    refine wpList_step fun K hK => ?_
    rw [if_pos (wanted_fit (o := ⟨d, _, ty, pos, aft, gd⟩) hF.size hF.rel hg)]
    unfold Oper.wp
    have hr := hF.reads (Op.call ⟨.value x, xs.toArray, ts⟩).operands
    rw [run_call hf (hr.v (by simp [Op.operands, Call.operands]) hx)]
    simp only [Oper.upon]
    have hfirst : ∀ l : List Value, RelL H (l.map .v) l := fun l => by
      induction l with
      | nil => exact .nil
      | cons v l ih => exact .cons (.v _) ih
    have h := hc.out H w (first ++ xs.map a.eval) hs ((hfirst first).append (hsb.rel hs (hr.list (fun y hy => by simp [Op.operands, Call.operands, hy]) hv)))
    rw [show (first.toArray ++ (xs.map a.eval).toArray ++ #[] : Array Value) = (first ++ xs.map a.eval).toArray by simp]
    refine Calls.mono h ?_
    rintro e w' ⟨v, b, H', L', rfl, hp, hrel, hle, hst⟩
    exact hK _ _ ((k b L' hp).out H' w' _ hst ((hF.mono hle).put hrel d))⟩
theorem Eff.callB {f : FuncId} {x : Operand} {xs : List Operand} {first : List Value} {as1 as2 : List AV} {ts : Array TypeId} {Φ : AV → List Ent → Prop} (hf : EntersT P f) (hx : oget n F x = some (.v (.func (.func f) first.toArray #[]))) (hv : ogets n F xs = some as1) (hsb : SbL L as1 as2) (hc : FnL P c f (first.map .v ++ as2) L Φ) :
    Eff P c n ops ⟨d, .call ⟨.value x, xs.toArray, ts⟩, ty, pos, aft, none⟩ F L Φ :=
  ⟨fun G Q hag hk => Lx.callB hf rfl (by rw [← look_op hag (by simp [Op.operands, Call.operands])]; exact hx) (by rw [← ogets_op (ops := ops) fun y hy => look_op hag (by simp [Op.operands, Call.operands, hy])]; exact hv) hsb hc hk⟩
/-- a call of a closure over the local heap -/
theorem Lx.callCL {Q : Exit → Act → World → Prop} {rest : List Oper} {gd : Option (Nat × Bool)} {f : FuncId} {x : Operand} {xs : List Operand} {a0 : AV} {as1 as2 caps : List AV} {ts : Array TypeId} {Φ : AV → List Ent → Prop} (hf : EntersT P f) (hg : wantB ops n F gd = some true) (hx : oget n F x = some a0) (hsx : Sb L a0 (.fn (.func f) caps)) (hv : ogets n F xs = some as1) (hsb : SbL L as1 as2) (hc : FnL P c f (as2 ++ caps) L Φ)
    (k : ∀ a L', Φ a L' → Lx P c n ops Q rest (putF d a F) L') : Lx P c n ops Q (⟨d, .call ⟨.value x, xs.toArray, ts⟩, ty, pos, aft, gd⟩ :: rest) F L :=
  ⟨fun H w a hs hF => by
    refine wpList_step fun K hK => ?_
    rw [if_pos (wanted_fit (o := ⟨d, _, ty, pos, aft, gd⟩) hF.size hF.rel hg)]
    unfold Oper.wp
    have hr := hF.reads (Op.call ⟨.value x, xs.toArray, ts⟩).operands
    obtain ⟨vs, e, hcap⟩ := (hsx.rel hs (hr x (by simp [Op.operands, Call.operands]) _ hx)).inv_fn
    rw [run_call hf e]
    simp only [Oper.upon]
    have h := hc.out H w (xs.map a.eval ++ vs) hs ((hsb.rel hs (hr.list (fun y hy => by simp [Op.operands, Call.operands, hy]) hv)).append hcap)
    rw [show (#[] ++ (xs.map a.eval).toArray ++ vs.toArray : Array Value) = (xs.map a.eval ++ vs).toArray by simp]
    refine Calls.mono h ?_
    rintro e w' ⟨v, b, H', L', rfl, hp, hrel, hle, hst⟩
    exact hK _ _ ((k b L' hp).out H' w' _ hst ((hF.mono hle).put hrel d))⟩
theorem Eff.callCL {f : FuncId} {x : Operand} {xs : List Operand} {a0 : AV} {as1 as2 caps : List AV} {ts : Array TypeId} {Φ : AV → List Ent → Prop} (hf : EntersT P f) (hx : oget n F x = some a0) (hsx : Sb L a0 (.fn (.func f) caps)) (hv : ogets n F xs = some as1) (hsb : SbL L as1 as2) (hc : FnL P c f (as2 ++ caps) L Φ) :
    Eff P c n ops ⟨d, .call ⟨.value x, xs.toArray, ts⟩, ty, pos, aft, none⟩ F L Φ :=
  ⟨fun G Q hag hk => Lx.callCL hf rfl (by rw [← look_op hag (by simp [Op.operands, Call.operands])]; exact hx) hsx (by rw [← ogets_op (ops := ops) fun y hy => look_op hag (by simp [Op.operands, Call.operands, hy])]; exact hv) hsb hc hk⟩
theorem flat_cells {l : List AV} (h : ∀ x ∈ l, x.cells = [x]) : l.flatMap AV.cells = l := by
  induction l with
  | nil => rfl
  | cons x l ih => rw [List.flatMap_cons, h x (by simp), ih fun y hy => h y (by simp [hy])]; rfl
end
/-! calls that look at a buffer for a while -/
theorem relC_take {H : Cells} : ∀ {b o : Nat} {cs : List AV}, RelC H b o cs → ∀ k, RelC H b o (cs.take k)
  | _, _, _, _, 0 => .nil
  | _, _, [], .nil, _ + 1 => .nil
  | _, _, _ :: _, .cons hu h t, k + 1 => .cons hu h (relC_take t k)
/-- arguments some of which point into a block, or are the first integers of a buffer -/
inductive SbT (gs : Nat) (cs : List AV) (g cap : Nat) (zs : List Int) : List AV → List AV → Prop
  | nil : SbT gs cs g cap zs [] []
  | ptr (off : Nat) {us bs : List AV} (t : SbT gs cs g cap zs us bs) : SbT gs cs g cap zs (.v (.pointer (some ⟨gs, off, none⟩)) :: us) (.fp cs off :: bs)
  | buf (len : Nat) (hl : len ≤ zs.length) {us bs : List AV} (t : SbT gs cs g cap zs us bs) : SbT gs cs g cap zs (.v (Buf g len cap) :: us) (.sl 1 ((zs.take len).map I) :: bs)
  | same (a : AV) {us bs : List AV} (t : SbT gs cs g cap zs us bs) : SbT gs cs g cap zs (a :: us) (a :: bs)
theorem SbT.rel {H H1 : Cells} {gs : Nat} {cs : List AV} {g cap : Nat} {zs : List Int} (hle : H.le H1) (hS : RelC H1 gs 0 cs) (hC : RelC H1 g 0 (zs.map I)) (hc : zs.length ≤ cap) (hm : cap ≤ maxLen) : ∀ {us bs : List AV} {vs : List Value}, SbT gs cs g cap zs us bs → RelL H us vs → RelL H1 bs vs
  | _, _, _, .nil, .nil => .nil
  | _, _, _, .same _ t, .cons h t' => .cons (h.mono hle) (t.rel hle hS hC hc hm t')
  | _, _, _, .ptr off t, .cons h t' => by
    refine .cons ?_ (t.rel hle hS hC hc hm t')
    have e := h.inv
    subst e
    have := Rel.fp (off := off) hS
    rwa [Nat.zero_add] at this
  | _, _, _, .buf len hl t, .cons h t' => by
    refine .cons ?_ (t.rel hle hS hC hc hm t')
    have e := h.inv
    subst e
    by_cases h0 : len = 0
    · subst h0
      exact .sl0 (by omega)
    · have hf : ∀ l : List Int, (l.map I).flatMap AV.cells = l.map I := fun l => flat_cells (by simp [AV.cells])
      have hE : RelE H1 1 g 0 ((zs.take len).map I) := RelE.of (fun y hy => by obtain ⟨q, _, rfl⟩ := List.mem_map.1 hy; rfl) (by
        rw [hf, List.map_take]
        exact relC_take hC len)
      have hlen : ((zs.take len).map I).length = len := by simp; omega
      have := Rel.sl (cap := cap) hE (by rw [hlen]; omega) hm
      rwa [hlen] at this
section
variable {P : Program} {T : Tr} {c : Ctx} {n : Cfg} {F : Fr} {L : List Ent} {ty : TypeId}
end
section
variable {P : Program} {T : Tr} {c : Ctx} {n : Cfg} {ops : Array Oper} {F : Fr} {L : List Ent} {w : Bool} {k : AV → Prop} [hT : TabOK P T]
variable {d : Option Tmp} {ty : TypeId} {pos : String} {aft : Array Edge}
theorem Eff.box {t : TypeId} {x : Operand} {a : AV} {cs : List AV} (hx : oget n F x = some a) (hok : a.ok = true) (hcs : a.cells = cs) : Eff P c n ops ⟨d, .box t x, ty, pos, aft, none⟩ F L fun r L' => ∃ b, r = .v (.pointer (some ⟨b, 0, none⟩)) ∧ L' = .blk b t false cs :: L :=
  ⟨fun _ _ hag hk => Lx.boxOf rfl (by rw [← look_op hag (by simp [Op.operands])]; exact hx) hok hcs fun b => hk _ _ ⟨b, rfl, rfl⟩⟩
end
section
variable {P : Program} {T : Tr} {c : Ctx} {n : Cfg} {ops : Array Oper} {F : Fr} {L : List Ent}
variable {d : Option Tmp} {ty : TypeId} {pos : String} {aft : Array Edge}
/-- operands read under a guard -/
inductive SeesL (n : Cfg) (F : Fr) (w : Bool) : List Operand → List AV → Prop
  | nil : SeesL n F w [] []
  | opt {x : Operand} {xs : List Operand} {b : Bool} {a : AV} {bs : List AV} (h : oget n F x = some (.opt b a)) (hb : w = true → b = true) (t : SeesL n F w xs bs) : SeesL n F w (x :: xs) (a :: bs)
  | one {x : Operand} {xs : List Operand} {a : AV} {bs : List AV} (h : oget n F x = some a) (t : SeesL n F w xs bs) : SeesL n F w (x :: xs) (a :: bs)
theorem SeesL.rel {H : Cells} {w : Bool} {a : Act} (hF : Fit H n F a) (hw : w = true) : ∀ {xs : List Operand} {bs : List AV}, SeesL n F w xs bs → RelL H bs (xs.map a.eval)
  | _, _, .nil => .nil
  | _, _, .opt h hb t => .cons ((hF.eval h).inv_opt.1 (hb hw)) (t.rel hF hw)
  | _, _, .one h t => .cons (hF.eval h) (t.rel hF hw)
theorem SeesL.of {w : Bool} {G : Fr} : ∀ {xs : List Operand} {bs : List AV}, (∀ x ∈ xs, oget n F x = oget n G x) → SeesL n F w xs bs → SeesL n G w xs bs
  | _, _, _, .nil => .nil
  | _, _, h, .opt h1 hb t => .opt (by rw [← h _ (by simp)]; exact h1) hb (t.of fun x hx => h x (by simp [hx]))
  | _, _, h, .one h1 t => .one (by rw [← h _ (by simp)]; exact h1) (t.of fun x hx => h x (by simp [hx]))
end
/-! regions of open order with one effect, free operations before and after it -/
section
variable {P : Program} {c : Ctx} {n : Cfg} {ops : Array Oper} {Q : Exit → Act → World → Prop} {L0 : List Ent}
structure MixQ (ops : Array Oper) (m N : Nat) (cs : List Nat) : Prop where
  size : ops.size = N
  le : m ≤ N
  back : ∀ (k : Nat) (o : Oper), k < m → ops[k]? = some o → ∀ e ∈ o.after, Region.binds .any e = true → e.on < k
  deps : ∀ (k i : Nat) (o o' : Oper) (d : Tmp), k < m → i < m → ops[k]? = some o → ops[i]? = some o' → o'.dst = some d → d ∈ o.looksAt ops → (edgeB ops k i = true ∧ (k ∉ cs → i ∉ cs)) ∨ (i ∈ cs ∧ edgeB ops i k = true)
  dist : ∀ (k i : Nat) (o o' : Oper) (d : Tmp), k < m → i < m → ops[k]? = some o → ops[i]? = some o' → o'.dst = some d → o.dst = some d → k = i
end
end Go.E2
namespace Go.E2
open Go.RowKit
theorem St.newCap {H : Cells} {w : World} (hi : HIn H w) (e : TypeId) (cap size : Nat) {cs : Array Value} (hcs : cs.size = cap * size) (hsm : cap ≤ maxLen) :
    St ⟨w, H⟩ H (w.alloc (.cells cs e)) [.row (.slice (some ⟨w.heap.size, 0, none⟩) 0 cap) e size 0 false []] := by
  refine ⟨(Below.refl _ _).alloc (Nat.le_refl _) _, Cells.le_refl _, hin_heap hi (fun b o u hu => Below.heap_alloc _ _ _ (hi.lt hu)), fun _ _ _ h _ => h, ?_, by simp, Nat.le_refl _⟩
  intro x hx
  simp only [List.mem_singleton] at hx
  subst hx
  refine ⟨[], ⟨by simp, .inr ⟨w.heap.size, cap, cs, rfl, Nat.le_refl _, heap_alloc_new w _, Nat.zero_le _, hsm, hcs, by simp⟩⟩, .nil, by simp, Nat.zero_le _, fun g hg o _ => ?_, fun h => by cases h⟩
  simp only [Value.ownBlock, Option.some.injEq] at hg
  subst hg
  cases hu : H w.heap.size o with
  | none => rfl
  | some u => have := hi.lt hu; omega
section
variable {P : Program} {T : Tr} {c : Ctx} {n : Cfg} {ops : Array Oper} {F : Fr} {L : List Ent} {ty : TypeId} {d : Option Tmp} {pos : String} {aft : Array Edge}
theorem Eff.mkC [hT : TabOK P T] {t e size bytes N : Nat} {x y : Operand} (hd : T.get t = some (.sl e size bytes)) (hb : (Nat.blt 0 size && Nat.blt 0 bytes) = true) (hx : oget n F x = some (I 0)) (hy : oget n F y = some (I N)) (hN : N * bytes ≤ 281474976710656 ∧ N ≤ 1000000000) :
    Eff P c n ops ⟨d, .makeSlice t x y, ty, pos, aft, none⟩ F L fun r L' => ∃ A k cp, r = .v (.slice A k cp) ∧ L' = .row (.slice A k cp) e size 0 false [] :: L :=
  Eff.op fun G H w a hag hs hF => by
    simp only [Bool.and_eq_true, Nat.blt_eq] at hb
    obtain ⟨i, z', h1, h2, h3, h4, h5, h6, h7, h8⟩ := ((tab_sl hT hd).2.2 hb.1 hb.2).parts
    have e1 := (hF.eval (by rw [← hag x (by simp [Op.operands])]; exact hx)).inv
    have e2 := (hF.eval (by rw [← hag y (by simp [Op.operands])]; exact hy)).inv
    have hr := run_make (P := P) w t e i z' h1 h2 h3 .i64 .i64 0 (N : Int) (by omega) (by omega) (by rw [h5, ← Int.natCast_mul, Nat.mul_comm]; exact Int.ofNat_le.2 hN.1) (by omega)
    rw [Int.toNat_natCast, Int.toNat_zero, h4] at hr
    have hst := hs.trans (St.newCap hs.hin e N size (cs := madeCells z'.cells (N * size)) (by simp [madeCells]) (by have := hN.2; unfold maxLen; omega))
    exact ⟨_, _, _, _, H, _, by simp [execOp, e1, e2, hr], .inl rfl, Cells.le_refl _, hst, .v _, ⟨_, _, _, rfl, rfl⟩⟩
end
end Go.E2
namespace Go.E2
open Go.RowKit
section
variable {P : Program} {c : Ctx} {n : Cfg} {Q : Exit → Act → World → Prop} {F G : Fr} {L L0 : List Ent} {ops : Array Oper}
theorem wpAny_mixV {m : Nat} {K : Fr → List Ent → Prop} {cs0 : List Nat} {Ff : Fr} (hM : Mix ops m cs0) {W : List Nat → List Ent → Prop} {s0 : Nat} (hs0 : s0 ∈ cs0) (hs1 : ∀ i o, ops[i]? = some o → i ∉ cs0 → edgeB ops s0 i = true)
    (hK : ∀ F L H w a, K F L → St c H w L → Fit H n F a → wpList P ops (OnlyN Q) [] a w)
    (hfl : ∀ rest L i o, W rest L → rest ≠ [] → ops[i]? = some o → i ∉ cs0 → (∀ s, s ∈ cs0 → s ∉ rest → edgeB ops s i = false) → ∃ r, YieldsA P c n L ops o Ff r ∧ ∀ d, o.dst = some d → look Ff d = some r) :
    ∀ (fuel : Nat) (listed : Array Bool) (cs : List Nat) (F G : Fr) (L : List Ent) (H : Cells) (w : World) (a : Act), listed.size = m → Closed ops listed → unl m listed = fuel →
      (∀ i ∈ cs, listed.getD i true = false) → (∀ i ∈ cs0, i ∈ cs ∨ listed.getD i true = true) → (∀ i ∈ cs, i ∈ cs0) → cs.Nodup → chE ops cs = true → Kw P c n ops W K cs F L →
      (∀ s, (∀ i o, i ∈ cs0 → ops[i]? = some o → listed.getD i true = true → o.dst ≠ some s) → look F s = look Ff s) →
      (∀ s, (∀ i o, ops[i]? = some o → listed.getD i true = false → i ∉ cs0 → o.dst ≠ some s) → look G s = look F s) →
      St c H w L → Fit H n G a → wpAny P .any ops (OnlyN Q) fuel listed a w := by
  intro fuel
  induction fuel with
  | zero =>
    intro listed cs F G L H w a hsz hc hu h1 h2 h3 hn hch hk hFf hG hst hF
    have hz := unl_zero hu
    have hlt : ∀ {i : Nat} {o : Oper}, ops[i]? = some o → i < m := fun ho => by rw [← hM.size]; exact (Array.getElem?_eq_some_iff.1 ho).1
    cases hk with
    | cons ho R hs hw hk =>
      have := hz _ (hlt ho)
      rw [h1 _ (by simp)] at this
      cases this
    | nil hk =>
      refine ⟨?_, hK F L H w a hk hst (hF.weak fun s x hx => ?_)⟩
      · rw [List.eq_nil_iff_forall_not_mem]
        intro i hi
        obtain ⟨g1, o, ho, _⟩ := mem_ready.1 hi
        rw [hz i (hlt ho)] at g1
        cases g1
      · rw [hG s fun i o ho hl _ => by rw [hz i (hlt ho)] at hl; cases hl]
        exact hx
  | succ fuel ih =>
    intro listed cs F G L H w a hsz hc hu h1 h2 h3 hn hch hk hFf hG hst hF
    refine ⟨fun h0 => ?_, fun i hi => ?_⟩
    · exfalso
      obtain ⟨i, hi, hl⟩ := unl_pos (k := m) (listed := listed) (by omega)
      obtain ⟨j, g1, g2, g3⟩ := min_unl i hl
      have hjm : j < ops.size := by have := hM.size; omega
      have hj : j ∈ Region.ready .any ops listed := mem_ready.2 ⟨g2, ops[j], Array.getElem?_eq_getElem hjm, fun e he hb => by
        have hlt := hM.back j _ (Array.getElem?_eq_getElem hjm) e he hb
        have := g3 e.on hlt
        have hel : e.on < listed.size := by omega
        simp [hel] at this ⊢
        exact this⟩
      rw [h0] at hj
      cases hj
    obtain ⟨hun, o, ho, _⟩ := mem_ready.1 hi
    have him : i < m := by rw [← hM.size]; exact (Array.getElem?_eq_some_iff.1 ho).1
    have hil : i < listed.size := by omega
    have hus := unl_set hil hun m
    rw [if_pos him] at hus
    have hag : ∀ d, d ∈ o.looksAt ops → look F d = look G d := fun d hd => (hG d fun i' o' ho' hl' hn' he => (hM.deps i i' o o' d ho ho' he hd).elim (fun h => ready_edge hi h.1 hl') (fun h => hn' h.1)).symm
    by_cases hic : i ∈ cs0
    · have hics : i ∈ cs := (h2 i hic).resolve_right (by rw [hun]; simp)
      cases hk with
      | nil => cases hics
      | @cons j rest o' _ _ ho' R hs hw hk =>
        have e : j = i := by
          rcases List.mem_cons.1 hics with e | hr
          · exact e.symm
          · obtain ⟨x, hx, he⟩ := chE_mem hch hr
            exact (ready_edge hi he (h1 x hx)).elim
        subst e
        rw [ho] at ho'
        cases ho'
        refine wpOp_one ho (Q1 := fun _ a' w' => wpAny P .any ops (OnlyN Q) fuel (listed.setIfInBounds j true) a' w') (fun _ _ h => h) ((hs.out G _ hag fun r L' hR => Lx.nil ⟨fun H' w' a' hst' hF' => ?_⟩).out H w a hst hF)
        refine ih _ rest (putF o.dst r F) (putF o.dst r G) L' H' w' a' (by simpa using hsz) (hc.set hi) (by omega) (fun x hx => ?_) (fun x hx => ?_) (fun x hx => h3 x (List.mem_cons_of_mem _ hx)) (List.nodup_cons.1 hn).2 (chE_tl hch) (hk r L' hR) (fun s hs' => ?_) (fun s hs' => ?_) hst' hF'
        · rw [getD_set_ne true (fun e => (List.nodup_cons.1 hn).1 (by rw [e]; exact hx))]
          exact h1 x (List.mem_cons_of_mem _ hx)
        · by_cases e : j = x
          · right
            subst e
            simp [hil]
          · rcases h2 x hx with h | h
            · rcases List.mem_cons.1 h with h | h
              · exact absurd h.symm e
              · exact .inl h
            · right
              rw [getD_set_ne true e]
              exact h
        · rw [put_ne (hs' j o hic ho (by simp [hil]))]
          exact hFf s fun i' o' hi' ho' hl' => hs' i' o' hi' ho' (by
            by_cases e : j = i'
            · subst e; simp [hil]
            · rw [getD_set_ne true e]; exact hl')
        · exact put_eq (hG s fun i' o' ho' hl' hn' => hs' i' o' ho' (by rw [getD_set_ne true (fun e => hn' (by rw [← e]; exact hic))]; exact hl') hn')
    · have hcne : cs ≠ [] := fun e => by
        rcases h2 s0 hs0 with h | h
        · rw [e] at h; cases h
        · exact closed_edge hc h (by
            rcases Nat.lt_or_ge s0 listed.size with hlt | hge
            · exact hlt
            · obtain ⟨o', ho', _⟩ := edgeB_spec (hs1 i o ho hic)
              have h9 := (Array.getElem?_eq_some_iff.1 ho').1
              have := hM.size
              omega) hil (hs1 i o ho hic) hun
      have hWL : W cs L := by cases hk with | nil => exact absurd rfl hcne | cons ho R hs hw hk => exact hw
      obtain ⟨r, hy, hd⟩ := hfl cs L i o hWL hcne ho hic fun s hs1' hs2 => Bool.eq_false_iff.2 fun he => closed_edge hc ((h2 s hs1').resolve_left hs2) (by
        rcases Nat.lt_or_ge s listed.size with hlt | hge
        · exact hlt
        · obtain ⟨o', ho', _⟩ := edgeB_spec he
          have h9 := (Array.getElem?_eq_some_iff.1 ho').1
          have := hM.size
          omega) hil he hun
      have hy' : YieldsA P c n L ops o G r := hy.congr fun d hd' => by
        rw [← hag d hd']
        exact (hFf d fun i' o' hi' ho' hl' he => (hM.deps i i' o o' d ho ho' he hd').elim (fun h => h.2 hic hi') (fun h => closed_edge hc hl' (by have := (Array.getElem?_eq_some_iff.1 ho').1; have := hM.size; omega) hil h.2 hun)).symm
      have hnext : ∀ H' w' v, H.le H' → St c H' w' L → Rel H' r v → wpAny P .any ops (OnlyN Q) fuel (listed.setIfInBounds i true) (a.put o.dst v) w' := fun H' w' v hle hs' hr => by
        refine ih _ cs F (putF o.dst r G) L H' w' _ (by simpa using hsz) (hc.set hi) (by omega) (fun x hx => ?_) (fun x hx => ?_) h3 hn hch hk (fun s hs'' => hFf s fun i' o' hi' ho' hl' => hs'' i' o' hi' ho' (by rw [getD_set_ne true (fun e => hic (by rw [e]; exact hi'))]; exact hl')) (fun s hs'' => ?_) hs' ((hF.mono hle).put hr o.dst)
        · rw [getD_set_ne true (fun e => hic (by rw [e]; exact h3 x hx))]
          exact h1 x hx
        · rcases h2 x hx with h | h
          · exact .inl h
          · right
            rw [getD_set_ne true (fun e => hic (by rw [e]; exact hx))]
            exact h
        · by_cases e : o.dst = some s
          · rw [hFf s fun i' o' hi' ho' _ he => hic (by rw [← hM.dist i' i o' o s ho' ho e he]; exact hi'), hd s e, e]
            exact look_cons_self _ _ _
          · rw [put_ne e]
            refine hG s fun i' o' ho' hl' hn' => ?_
            by_cases e' : i = i'
            · subst e'
              rw [ho] at ho'
              cases ho'
              exact e
            · exact hs'' i' o' ho' (by rw [getD_set_ne true e']; exact hl') hn'
      unfold wpOp
      simp only [ho]
      rcases hy'.cases with ⟨_, hw, hg, hrr⟩ | ⟨hw, hrr⟩
      · rw [if_pos (wanted_fit hF.size hF.rel hw)]
        exact .inl (oper_wp_grows hst (hg.out H w a.eval hst (hF.reads _) o.dst o.pos o.after o.guard) fun H' w' v hl hs' hr => hnext H' w' v hl hs' (hrr _ _ hr))
      · rw [if_neg (by rw [wanted_fit hF.size hF.rel hw]; simp)]
        exact hnext H w undef (Cells.le_refl _) hst (hrr _)
theorem Cx.anyV {id : Nat} {l : List Oper} {m : Nat} (fs cs : List Nat) {W : List Nat → List Ent → Prop} (s0 : Nat) (hs0 : s0 ∈ cs) (hs1 : fs.all (fun i => edgeB l.toArray s0 i) = true) {Ff : Fr} (hm : P.follows .mixedOrders = true) (hl : l.length = m) (hd : l.all (fun o => noDef o.op) = true)
    (hB : mixB l.toArray m cs = true) (hC : partB l.toArray m fs cs = true)
    (lt : List Nat) (s1 : Nat) (hs1c : s1 ∈ cs) (hlt : fs.all (fun i => lt.contains i || edgeB l.toArray s1 i) = true)
    (h : ∀ rest L', W rest L' → s1 ∈ rest → RunA P c n L' l.toArray (fs.map fun i => l.getD i default) F Ff)
    (hla : ∀ rest L', W rest L' → rest ≠ [] → s1 ∉ rest → ∀ i ∈ lt, ∃ r, YieldsA P c n L' l.toArray (l.getD i default) Ff r ∧ ∀ d, (l.getD i default).dst = some d → look Ff d = some r) (h2 : Kw P c n l.toArray W (fun F L' => Lx P c n l.toArray Q [] F L') cs Ff L) : Cx P c n (.region id l.toArray true) Q F L :=
  ⟨fun H w a hs hF _ => by
    have hsz : l.toArray.size = m := by simpa using hl
    have hM := mix_of hsz hB
    simp only [partB, Bool.and_eq_true, List.all_eq_true, List.mem_range, Bool.or_eq_true, Bool.not_eq_true', List.contains_eq_mem, decide_eq_false_iff_not, decide_eq_true_eq] at hC
    obtain ⟨⟨⟨⟨⟨c1, c2⟩, c3⟩, c4⟩, c6⟩, c5⟩ := hC
    refine wpIn_of_any hd hm ?_
    have hget : ∀ i ∈ fs, l.toArray[i]? = some (l.getD i default) := fun i hi => by
      have : i < l.length := by rw [hl]; exact Nat.le_of_ble_eq_true (c4 i hi).1
      simp [this]
    have fall := fun L' (h1 : RunA P c n L' l.toArray (fs.map fun i => l.getD i default) F Ff) => h1.full (by
        rw [List.pairwise_map]
        refine (List.Pairwise.and_mem.1 (ascB_pw c1)).imp ?_
        rintro i j ⟨hi, hj, hij⟩ d hd
        refine ⟨fun hm => ?_, fun he => ?_⟩
        · have := ((hM.deps i j _ _ d (hget i hi) (hget j hj) hd hm).resolve_right fun h => (c4 j hj).2 h.1).1
          obtain ⟨o, ho, e, e1, e2, e3⟩ := edgeB_spec this
          have := hM.back i o ho e e1 e2
          omega
        · have := hM.dist i j _ _ d (hget i hi) (hget j hj) hd he
          omega) (fun o ho d hd hm => by
        obtain ⟨i, hi, rfl⟩ := List.mem_map.1 ho
        have := ((hM.deps i i _ _ d (hget i hi) (hget i hi) hd hm).resolve_right fun h => (c4 i hi).2 h.1).1
        obtain ⟨o, ho, e, e1, e2, e3⟩ := edgeB_spec this
        have := hM.back i o ho e e1 e2
        omega)
    have hfl : ∀ i o, l.toArray[i]? = some o → i ∉ cs → i ∈ fs ∧ o = l.getD i default := fun i o ho hn => by
      have him : i < m := by rw [← hsz]; exact (Array.getElem?_eq_some_iff.1 ho).1
      have hi := (c5 i him).resolve_left hn
      refine ⟨hi, ?_⟩
      rw [hget i hi] at ho
      exact (Option.some.inj ho).symm
    have hun : ∀ k, k ≤ m → unl k (Array.replicate m false) = k := by
      intro k
      induction k with
      | zero => intro _; rfl
      | succ k ih =>
        intro hk
        have h3 := ih (by omega)
        simp only [unl, h3]
        rw [if_pos (by simp [show k < m by omega])]
    have hne0 : cs ≠ [] := fun e => by rw [e] at hs0; cases hs0
    have hW0 : W cs L := by cases h2 with | nil => exact absurd rfl hne0 | cons _ _ _ hw _ => exact hw
    rw [hsz]
    have := wpAny_mixV (P := P) (Q := Q) (K := fun F L' => Lx P c n l.toArray Q [] F L') (Ff := Ff) hM hs0 (fun i o ho hn => List.all_eq_true.1 hs1 i (hfl i o ho hn).1) (fun F L H w a k hst hF => k.out H w a hst hF)
      (fun rest L' i o hW hne ho hn hfr => by
        obtain ⟨hi, rfl⟩ := hfl i o ho hn
        by_cases hr : s1 ∈ rest
        · exact (fall L' (h rest L' hW hr)).1 _ (List.mem_map.2 ⟨i, hi, rfl⟩)
        · have h9 := List.all_eq_true.1 hlt i hi
          rw [hfr s1 hs1c hr, Bool.or_false, List.contains_iff_mem] at h9
          exact hla rest L' hW hne hr i h9) m (Array.replicate m false) cs Ff F L H _ a (by simp) (fun k o ho hk => by simp [Array.getElem?_replicate] at hk; split at hk <;> simp_all) (hun m (Nat.le_refl _))
      (fun i hi => by
        have him : i < m := Nat.le_of_ble_eq_true (c6 i hi)
        simp [him]) (fun i hi => .inl hi) (fun i hi => hi) ((ascB_pw c2).imp fun h => Nat.ne_of_lt h) c3 h2 (fun s _ => rfl) (fun s hs' => by
          refine ((fall L (h cs L hW0 hs1c)).2 s fun o ho he => ?_).symm
          obtain ⟨i, hi, rfl⟩ := List.mem_map.1 ho
          have him : i < m := Nat.le_of_ble_eq_true (c4 i hi).1
          exact hs' i _ (hget i hi) (by simp [him]) (c4 i hi).2 he) hs.drew hF
    exact this⟩
/-- free operations before the operation s1 of the chain, but for those of lt, which yield the same afterwards -/
theorem CK.anyV {T : Tr} [hT : TabOK P T] {m : Nat} {ro : Option Nat} {K : KT} {ds : List Deferred} {id : Nat} {ops : Array Oper} (fs cs lt : List Nat) (W : List Nat → List Ent → Prop) (s0 s1 : Nat) (hq : (cs.contains s0 && cs.contains s1 && fs.all (fun i => edgeB ops s0 i) && fs.all (fun i => lt.contains i || edgeB ops s1 i)) = true) (hB : anyKB ops fs cs = true) (Ff : Fr)
    (h : ∀ rest L', W rest L' → s1 ∈ rest → RunA P c ⟨m, ds, ro⟩ L' ops (fs.map fun i => ops.toList.getD i default) F Ff)
    (hla : ∀ rest L', W rest L' → rest ≠ [] → s1 ∉ rest → ∀ i ∈ lt, ∃ r, YieldsA P c ⟨m, ds, ro⟩ L' ops (ops.toList.getD i default) Ff r ∧ ∀ d, (ops.toList.getD i default).dst = some d → look Ff d = some r)
    (hk : Kw P c ⟨m, ds, ro⟩ ops W (fun F L => K ds .normal F L) cs Ff L) : CK P T c m ro (.region id ops true) K ds F L := by
  simp only [anyKB, Bool.and_eq_true] at hB
  simp only [Bool.and_eq_true, List.contains_iff_mem] at hq
  obtain ⟨⟨⟨q1, q2⟩, q3⟩, q4⟩ := hq
  obtain ⟨⟨h1, h2⟩, h3⟩ := hB
  refine ⟨fun Q hQ => ?_⟩
  have e : ops.toList.toArray = ops := Array.toArray_toList
  have mono : ∀ {cs : List Nat} {F : Fr} {L : List Ent}, Kw P c ⟨m, ds, ro⟩ ops W (fun F L => K ds .normal F L) cs F L → Kw P c ⟨m, ds, ro⟩ ops W (fun F L' => Lx P c ⟨m, ds, ro⟩ ops Q [] F L') cs F L := fun hk => by
    induction hk with
    | nil h => exact .nil (Lx.nil (hQ _ _ _ _ h))
    | cons ho R hs hw hk ih => exact .cons ho R hs hw ih
  have := Cx.anyV (P := P) (c := c) (n := ⟨m, ds, ro⟩) (Q := Q) (F := F) (L := L) (id := id) (l := ops.toList) fs cs (W := W) s0 q1 (by rw [e]; exact q3) (Ff := Ff) hT.fol rfl h1 (by rw [e]; exact h2) (by rw [e]; exact h3) lt s1 q2 (by rw [e]; simpa using q4) (by rw [e]; exact h) (by rw [e]; exact hla) (by rw [e]; exact mono hk)
  rwa [e] at this
theorem Kw.stp {T : Tr} [TabOK P T] {W : List Nat → List Ent → Prop} {K : Fr → List Ent → Prop} {i : Nat} {is : List Nat} {d : Option Tmp} {o : Op} {ty : TypeId} {pos : String} {aft : Array Edge} (ho : ops[i]? = some ⟨d, o, ty, pos, aft, none⟩) (hw : W (i :: is) L) (h : E2.gr P T c n true F L ty o fun r => putK d r F fun F => Kw P c n ops W K is F L) : Kw P c n ops W K (i :: is) F L := by
  obtain ⟨r, h1, h2⟩ := gr_out h
  exact .cons ho (fun r' L' => r' = r ∧ L' = L) ⟨fun _ _ hag hk => Lx.gr rfl ((h1 rfl).congr fun _ hm => look_op hag hm) (hk r L ⟨rfl, rfl⟩)⟩ hw fun _ _ e => by
    obtain ⟨rfl, rfl⟩ := e
    exact putK_out h2
theorem Kw.eff {W : List Nat → List Ent → Prop} {K : Fr → List Ent → Prop} {i : Nat} {is : List Nat} {d : Option Tmp} {o : Op} {ty : TypeId} {pos : String} {aft : Array Edge} {R : AV → List Ent → Prop} (ho : ops[i]? = some ⟨d, o, ty, pos, aft, none⟩) (h : Eff P c n ops ⟨d, o, ty, pos, aft, none⟩ F L R) (hw : W (i :: is) L) (k : ∀ r L', R r L' → putK d r F fun F => Kw P c n ops W K is F L') : Kw P c n ops W K (i :: is) F L :=
  .cons ho R h hw fun r L' hR => putK_out (k r L' hR)
theorem Kw.gr {W : List Nat → List Ent → Prop} {K : Fr → List Ent → Prop} {i : Nat} {is : List Nat} {d : Option Tmp} {o : Op} {ty : TypeId} {pos : String} {aft : Array Edge} {r : AV} (ho : ops[i]? = some ⟨d, o, ty, pos, aft, none⟩) (hw : W (i :: is) L) (h : Gr P c n o ty F L r) (k : putK d r F fun F => Kw P c n ops W K is F L) : Kw P c n ops W K (i :: is) F L :=
  .cons ho (fun r' L' => r' = r ∧ L' = L) ⟨fun _ _ hag hk => Lx.gr rfl (h.congr fun _ hm => look_op hag hm) (hk r L ⟨rfl, rfl⟩)⟩ hw fun _ _ e => by
    obtain ⟨rfl, rfl⟩ := e
    exact putK_out k
end
end Go.E2
