/-
  The engine, texts RW.
  Conditions: none beyond the premises of each rule.
-/
import Derived.Test.YtjfnkmlnbaianaaGreatE5H
import Derived.AtR
namespace Go
open Go.E2
theorem stepR_scopeW {P : Program} {b : Frame} {a : Act} {k : List Item} {cs : List Frame} {w : World} {c : Code} : step P (lone (b.atR a (.code (.scope c) :: k)) cs w) = .next (lone (b.atR a (.code c :: .inScope c :: k)) cs w) :=
 step_lone_go (by simp [stepG, stepG.exec, Frame.atR])
theorem stepR_inScopeW {P : Program} {b : Frame} {a : Act} {k : List Item} {cs : List Frame} {w : World} {c : Code} : step P (lone (b.atR a (.inScope c :: k)) cs w) = .next (lone (b.atR a k) cs w) :=
 step_lone_go (by simp [stepG, stepG.exec, Frame.atR])
theorem wpIn_scopeW {F : Fence} {n : Nat} {P : Program} {Q : Exit → Act → World → Prop} {a : Act} {w : World} {c : Code} (h : c.wpIn F n P (fun e a w => match e with | .goto _ => False | e => Q e a w) a w) : (Code.scope c).wpIn F n P Q a w := by
 intro b k cs hro hb hr
 have h0 : (lone (b.atR a (.code (.scope c) :: k)) cs w).fenced P F := fenced_calm hb hr rfl
 obtain ⟨e, a₁, w₁, hq, harr⟩ := h b (.inScope c :: k) cs hro hb hr
 cases e with
 | normal => exact ⟨.normal, a₁, w₁, hq, .head h0 stepR_scopeW (StepsIn.trans harr (.one (fenced_calm hb hr rfl) stepR_inScopeW))⟩
 | exit id =>
  have hx : exitTo id (.inScope c :: k) = exitTo id k := by simp [exitTo]
  exact ⟨.exit id, a₁, w₁, hq, fun k' hk => .head h0 stepR_scopeW (harr.1 k' (by rw [hx]; exact hk)), fun hr' hk => let ⟨k₁, h1, h2⟩ := harr.2 hr' (by rw [hx]; exact hk); ⟨k₁, h1, .head h0 stepR_scopeW h2⟩⟩
 | goto l => exact hq.elim
 | ret => exact ⟨_, a₁, w₁, hq, .of_steps (.one h0 stepR_scopeW) harr⟩
 | panic ch => exact ⟨_, a₁, w₁, hq, .of_steps (.one h0 stepR_scopeW) harr⟩
 | outgrown => exact ⟨_, a₁, w₁, hq, .of_steps (.one h0 stepR_scopeW) harr⟩
end Go
namespace Go.E2
open Go.RowKit
section
variable {P : Program} {T : Tr} {c : Ctx} {m : Nat} {ro : Option Nat} {K : KT} {ds : List Deferred} {F : Fr} {L : List Ent}
theorem CK.scope [TabOK P T] {x : Code} (h : wpc P T c m ro x (fun ds e F L => match e with | .goto _ => False | e => K ds e F L) ds F L) : CK P T c m ro (.scope x) K ds F L :=
 ⟨fun Q hQ => ⟨fun H w a hs hf d => wpIn_scopeW (((wpc_out h).out (fun e a w => match e with | .goto _ => False | e => Q e a w) fun ds e F L hk => by
  cases e with
  | goto l => exact hk.elim
  | normal => exact ⟨(hQ _ _ _ _ hk).out⟩
  | exit i => exact ⟨(hQ _ _ _ _ hk).out⟩
  | ret => exact ⟨(hQ _ _ _ _ hk).out⟩
  | panic ch => exact ⟨(hQ _ _ _ _ hk).out⟩
  | outgrown => exact ⟨(hQ _ _ _ _ hk).out⟩).out H w a hs hf d)⟩⟩
theorem CK.label [TabOK P T] {l : Nat} (h : K ds .normal F L) : CK P T c m ro (.label l) K ds F L :=
 ⟨fun _ hQ => ⟨fun H w a hs hf _ => wpIn_label ((hQ _ _ _ _ h).out H w a hs hf)⟩⟩
end
theorem St.shorten {c : Ctx} {H : Cells} {w : World} {L : List Ent} {i : Nat} {A : Option Addr} {n cap : Nat} {t : TypeId} {size m : Nat} {xs : List AV} (h : St c H w L) (hL : L[i]? = some (.row (.slice A n cap) t size m false xs)) (j : Nat) (hj : j ≤ xs.length) (hm : m ≤ j) :
  St c H w (L.set i (.row (.slice A j cap) t size m false (xs.take j))) := by
 have hi : i < L.length := (List.getElem?_eq_some_iff.1 hL).1
 have hLi : L[i] = .row (.slice A n cap) t size m false xs := (List.getElem?_eq_some_iff.1 hL).2
 refine ⟨h.below, h.le, h.hin, h.old, fun e he => ?_, ?_, h.dr⟩
 ·rcases List.mem_or_eq_of_mem_set he with he | rfl
  ·exact h.holds e he
  ·obtain ⟨us, hrow, hrel, hcl, hm', hno, hyes⟩ := h.holds _ (List.mem_of_getElem? hL)
   have hflat : ∀ (l : List AV) (q : Nat), (∀ x ∈ l, x.cells.length = size) → ((l.take q).flatMap AV.cells) = (l.flatMap AV.cells).take (q * size) := by
    intro l
    induction l with
    | nil => simp
    | cons a l ih =>
     intro q hq
     cases q with
     | zero => simp
     | succ q =>
      rw [List.take_succ_cons, List.flatMap_cons, List.flatMap_cons, ih q fun x hx => hq x (by simp [hx]), List.take_append, hq a (by simp)]
      rw [List.take_of_length_le (l := a.cells) (by rw [hq a (by simp), Nat.succ_mul]; omega), Nat.succ_mul, Nat.add_sub_cancel]
   have hlen : us.length = xs.length * size := hrow.1
   refine ⟨us.take (j * size), ⟨?_, ?_⟩, ?_, fun x hx => hcl x (List.mem_of_mem_take hx), by rw [List.length_take]; omega, fun g hg o ho => hno g (by cases A with | none => simp [Value.ownBlock] at hg | some a => exact hg) o ho, fun h => by cases h⟩
   ·rw [List.length_take, List.length_take, hlen, Nat.min_eq_left hj, Nat.min_eq_left (Nat.mul_le_mul_right _ hj)]
   ·rw [List.length_take, Nat.min_eq_left hj]
    rcases hrow.2 with ⟨hv, hn⟩ | ⟨g, cap', cur, hv, h1, h2, h3, h4, h5, h6⟩
    ·left
     injection hv with e1 e2 e3
     subst e1; subst e3
     exact ⟨by rw [show j = 0 by omega], by omega⟩
    ·right
     injection hv with e1 e2 e3
     subst e1; subst e3
     refine ⟨g, cap, cur, rfl, h1, h2, by omega, h4, h5, ?_⟩
     rw [← h6, List.take_take, Nat.min_eq_left (Nat.mul_le_mul_right _ hj)]
   ·rw [hflat xs j hcl]
    exact hrel.take _
 ·have ho : (Ent.row (.slice A j cap) t size m false (xs.take j)).own = (Ent.row (.slice A n cap) t size m false xs).own := by cases A <;> rfl
  have hmap : (L.set i (.row (.slice A j cap) t size m false (xs.take j))).map Ent.own = L.map Ent.own := by
   rw [List.map_set, ho, ← hLi]
   have : (L.map Ent.own).set i (L[i]).own = L.map Ent.own := by
    apply List.ext_getElem
    ·simp
    ·intro k h1 h2
     rw [List.getElem_set]
     split
     ·rename_i e; subst e; simp
     ·rfl
   exact this
  have h1 : (L.map Ent.own).Pairwise (fun a b => ∀ g, a = some g → b ≠ some g) := List.pairwise_map.2 h.apart
  rw [← hmap] at h1
  exact List.pairwise_map.1 h1
section
variable {P : Program} {T : Tr} {c : Ctx} {n : Cfg} {Q : Exit → Act → World → Prop} {F : Fr} {L : List Ent} {ops : Array Oper} {l : List Oper} {K : Fr → List Ent → Prop}
theorem LK.shorten {A : Option Addr} {q cap : Nat} {t : TypeId} {size m : Nat} {xs : List AV} (i j : Nat) (hL : L[i]? = some (.row (.slice A q cap) t size m false xs)) (hj : j ≤ xs.length) (hm : m ≤ j) (k : LK P T c n ops K l F (L.set i (.row (.slice A j cap) t size m false (xs.take j)))) : LK P T c n ops K l F L :=
 ⟨fun Q hQ => ⟨fun H w a hs hF => ((k.out Q hQ).out H w a (hs.shorten hL j hj hm) hF)⟩⟩
theorem Gr.slcV {t e len cap kk m : Nat} {A : Option Addr} {x z : Operand} {ty U : TypeId} {j : Int} {q : IntKind} {zz : Bool} {xs : List AV} (ht : SlcT P t e kk) (i : Nat) (hx : oget n F x = some (.v (.slice A len cap))) (hL : L[i]? = some (.row (.slice A len cap) U kk m zz xs)) (hz : oget n F z = some (.v (.int q j))) (h0 : 0 ≤ j) (h1 : j ≤ xs.length) (h2 : 0 < xs.length) :
  Gr P c n (.slice t x none (some z) none) ty F L (.v (.slice A j.toNat cap)) :=
 .pure fun H w ρ hs hr d pos aft _ => by
  obtain ⟨cap', cur, us, hv, hh, c1, c2, c3, _⟩ := row_at hs hL (by rintro rfl; simp at h2)
  injection hv with hv1 hv2 hv3
  subst hv3
  have c2 : 0 ≤ j ∧ j ≤ (cap : Int) := by omega
  have hrun : (execOp ρ ⟨d, .slice t x none (some z) none, ty, pos, aft, by assumption⟩).run P w = .ok (.value (.slice A j.toNat cap)) w := by
   simp only [execOp, Option.map_some, Option.map_none, hr.v (x := x) (by simp [Op.operands]) hx, hr.v (x := z) (by simp [Op.operands]) hz, Instr.sliceAt, Instr.slice, Instr.sliceBounds, Instr.sliceBound, asIntOf]
   have hA : ∀ A : Option Addr, A.map (fun a : Addr => a.add 0) = A := fun A => by cases A <;> simp [Addr.add]
   simp [run_und ht.und, run_sizeOf' ht.size, c2, hA]
  exact ⟨_, hrun, .v _⟩
theorem Ask.slcV [hT : TabOK P T] {t e b len cap kk m : Nat} {A : Option Addr} {x z : Operand} {ty U : TypeId} {j : Int} {q : IntKind} {zz w : Bool} {xs : List AV} {k : AV → Prop} (i : Nat) (hk : k (.v (.slice A j.toNat cap))) (hd : T.get t = some (.sl e kk b)) (hx : oget n F x = some (.v (.slice A len cap))) (hL : L[i]? = some (.row (.slice A len cap) U kk m zz xs)) (hz : oget n F z = some (.v (.int q j))) (h0 : w = true → 0 ≤ j ∧ j ≤ xs.length ∧ 0 < xs.length) :
  Ask P c n w (.slice t x none (some z) none) ty F L k := ⟨_, fun e => Gr.slcV (tab_sl hT hd).1 i hx hL hz (h0 e).1 (h0 e).2.1 (h0 e).2.2, hk⟩
theorem Gr.mkIfaceV {t : TypeId} {x : Operand} {u : Value} {ty : TypeId} (ht : ∃ d, P.underlying t = some d ∧ ∀ w, d ≠ .interface w) (hx : oget n F x = some (.v u)) : Gr P c n (.makeInterface t x) ty F L (.v (.iface t u)) :=
 .pure fun H w ρ _ hr d pos aft g => by
  obtain ⟨dd, h1, h2⟩ := ht
  have e := hr.v (by simp [Op.operands]) hx
  refine ⟨.iface t u, ?_, .v _⟩
  cases dd <;> first | (exact absurd rfl (h2 _)) | simp [execOp, Instr.makeInterface, run_und h1, e]
theorem Gr.assertV {t s : TypeId} {x : Operand} {u : Value} {ty : TypeId} (ht : ∃ d, P.underlying t = some d ∧ ∀ w, d ≠ .interface w) (hx : oget n F x = some (.v (.iface t u))) : Gr P c n (.typeAssert x s t true) ty F L (.tup [.v u, .v (.bool true)]) :=
 .pure fun H w ρ _ hr d pos aft g => by
  obtain ⟨dd, h1, h2⟩ := ht
  have e := hr.v (by simp [Op.operands]) hx
  refine ⟨.tuple #[u, .bool true], ?_, .tup (.cons (.v _) (.cons (.v _) .nil))⟩
  cases dd <;> first | (exact absurd rfl (h2 _)) | simp [execOp, Instr.typeAssert, run_und h1, e]
structure MethP (P : Program) (name : String) (x : Value) (f : FuncId) (A : Addr) : Prop where
 out : ∀ args w u, w.cell? A = some u → (invoke (.fn (.method name) #[]) (#[x] ++ args)).run P w = .ok (.enter f (#[u] ++ args)) w
variable {d : Option Tmp} {ty : TypeId} {pos : String} {aft : Array Edge} {gd : Option (Nat × Bool)} {rest : List Oper}
theorem Lx.callR {f : FuncId} {x : Operand} {nm : String} {iv : Value} {xs : List Operand} {avs' avs : List AV} {ts : Array TypeId} {Φ : AV → List Ent → Prop} {a0 : AV} (hf : ∀ H w, St c H w L → ∃ u, Rel H a0 u ∧ ∀ args, (invoke (.fn (.method nm) #[]) (#[iv] ++ args)).run P w = .ok (.enter f (#[u] ++ args)) w) (hg : wantB ops n F gd = some true) (hx : oget n F x = some (.v iv)) (hv : ogets n F xs = some avs') (hsb : SbL L avs' avs) (hc : FnL P c f (a0 :: avs) L Φ)
  (k : ∀ a L', Φ a L' → Lx P c n ops Q rest (putF d a F) L') : Lx P c n ops Q (⟨d, .call ⟨.invoke x nm, xs.toArray, ts⟩, ty, pos, aft, gd⟩ :: rest) F L :=
 ⟨fun H w a hs hF => by
  refine wpList_step fun K hK => ?_
  rw [if_pos (wanted_fit (o := ⟨d, _, ty, pos, aft, gd⟩) hF.size hF.rel hg)]
  unfold Oper.wp
  have hr := hF.reads (Op.call ⟨.invoke x nm, xs.toArray, ts⟩).operands
  have e1 := hr.v (by simp [Op.operands, Call.operands]) hx
  obtain ⟨u, hu, he⟩ := hf H w hs
  have e2 : (execOp a.eval ⟨d, .call ⟨.invoke x nm, xs.toArray, ts⟩, ty, pos, aft, gd⟩).run P w = .ok (.enter f (#[u] ++ (xs.map a.eval).toArray)) w := by
   simp only [execOp, resolve, e1]
   have := he (xs.map a.eval).toArray
   simpa using this
  rw [e2]
  simp only [Oper.upon]
  have h := hc.out H w (u :: xs.map a.eval) hs (.cons hu (hsb.rel hs (hr.list (fun y hy => by simp [Op.operands, Call.operands, hy]) hv)))
  rw [show (#[u] ++ (xs.map a.eval).toArray : Array Value) = (u :: xs.map a.eval).toArray by simp]
  refine Calls.mono h ?_
  rintro e w' ⟨v, b, H', L', rfl, hp, hrel, hle, hst⟩
  exact hK _ _ ((k b L' hp).out H' w' _ hst ((hF.mono hle).put hrel d))⟩
theorem Eff.callP {f : FuncId} {x : Operand} {nm : String} {iv : Value} {xs : List Operand} {as1 as2 : List AV} {ts : Array TypeId} {Φ : AV → List Ent → Prop} {g off i : Nat} {U : TypeId} {z : Bool} {cs : List AV} {a0 : AV} (hf : MethP P nm iv f ⟨g, off, none⟩) (hx : oget n F x = some (.v iv)) (hv : ogets n F xs = some as1) (hsb : SbL L as1 as2) (hL : L[i]? = some (.blk g U z cs)) (h0 : cs[off]? = some a0) (hc : FnL P c f (a0 :: as2) L Φ) :
  Eff P c n ops ⟨d, .call ⟨.invoke x nm, xs.toArray, ts⟩, ty, pos, aft, none⟩ F L Φ :=
 ⟨fun G Q hag hk => Lx.callR (fun H w hs => by
  obtain ⟨us, h1, h2⟩ := blk_at hs hL
  obtain ⟨u, h3, h4⟩ := h2.get h0
  exact ⟨u, h4, fun args => hf.out args w u (by simp [World.cell?, h1, h3])⟩) rfl (by rw [← look_op hag (by simp [Op.operands, Call.operands])]; exact hx) (by rw [← ogets_op (ops := ops) fun y hy => look_op hag (by simp [Op.operands, Call.operands, hy])]; exact hv) hsb hc hk⟩
theorem Eff.callI {f : FuncId} {x : Operand} {nm : String} {iv u : Value} {xs : List Operand} {as1 as2 : List AV} {ts : Array TypeId} {Φ : AV → List Ent → Prop} (hf : Meth P nm iv f u) (hx : oget n F x = some (.v iv)) (hv : ogets n F xs = some as1) (hsb : SbL L as1 as2) (hc : FnL P c f (.v u :: as2) L Φ) :
  Eff P c n ops ⟨d, .call ⟨.invoke x nm, xs.toArray, ts⟩, ty, pos, aft, none⟩ F L Φ :=
 ⟨fun G Q hag hk => Lx.callR (fun H w _ => ⟨u, .v _, fun args => hf.out args w⟩) rfl (by rw [← look_op hag (by simp [Op.operands, Call.operands])]; exact hx) (by rw [← ogets_op (ops := ops) fun y hy => look_op hag (by simp [Op.operands, Call.operands, hy])]; exact hv) hsb hc hk⟩
theorem methP_of {nm : String} {x : Value} {f : FuncId} {A : Addr} {t : TypeId} (ht : OneT P t) (h : ∀ args w, (callMethod x nm args).run P w = (do let u ← loadVar t A; pure (Next.enter f (#[u] ++ args)) : Sem Next).run P w) : MethP P nm x f A := ⟨fun args w u hu => by
 have e : (invoke (.fn (.method nm) #[]) (#[x] ++ args)).run P w = (callMethod x nm args).run P w := by
  have e1 : (#[x] ++ args)[0]? = some x := by
   rw [Array.getElem?_append_left (by simp)]; rfl
  simp [invoke]
  rw [e1]
 rw [e, h]
 simp [loadVar, run_isAgg_f ht, hu]⟩
theorem recv_of {L : List Ent} {nm : String} {iv : Value} {f : FuncId} {g off i : Nat} {U : TypeId} {z : Bool} {cs : List AV} {a0 : AV} (hf : MethP P nm iv f ⟨g, off, none⟩) (hL : L[i]? = some (.blk g U z cs)) (h0 : cs[off]? = some a0) : ∀ H w, St c H w L → ∃ u, Rel H a0 u ∧ ∀ args, (invoke (.fn (.method nm) #[]) (#[iv] ++ args)).run P w = .ok (.enter f (#[u] ++ args)) w := fun H w hs => by
 obtain ⟨us, h1, h2⟩ := blk_at hs hL
 obtain ⟨u, h3, h4⟩ := h2.get h0
 exact ⟨u, h4, fun args => hf.out args w u (by simp [World.cell?, h1, h3])⟩
theorem LK.callPW [TabOK P T] {g0 : Nat × Bool} {w : Bool} {f : FuncId} {x : Operand} {nm : String} {iv : Value} {xs : List Operand} {as1 as2 : List AV} {ts : Array TypeId} {r a0 : AV} {g off i : Nat} {U : TypeId} {z : Bool} {cs : List AV} (hf : MethP P nm iv f ⟨g, off, none⟩) (hL : L[i]? = some (.blk g U z cs)) (h0 : cs[off]? = some a0) (hw : wantB ops n F (some g0) = some w) (hi : imps w F (Op.call ⟨.invoke x nm, xs.toArray, ts⟩).operands.toList fun _ => True) (hc : w = true → FnL P c f (a0 :: as2) L fun a L' => a = r ∧ L' = L)
  (hx : oget n (opn F (Op.call ⟨.invoke x nm, xs.toArray, ts⟩).operands.toList) x = some (.v iv)) (hv : ogets n (opn F (Op.call ⟨.invoke x nm, xs.toArray, ts⟩).operands.toList) xs = some as1) (hsb : SbL L as1 as2) (k : putK d (.opt w r) F fun F => wpl P T c n ops K rest F L) :
  LK P T c n ops K (⟨d, .call ⟨.invoke x nm, xs.toArray, ts⟩, ty, pos, aft, some g0⟩ :: rest) F L :=
 ⟨fun Q hQ => ⟨fun H wd a hs hF => by
  obtain ⟨hM, _⟩ := imps_out hi
  refine wpList_step fun K' hK => ?_
  have kk := (wpl_out (putK_out k)).out Q hQ
  cases w with
  | false =>
   rw [if_neg (by rw [wanted_fit (o := ⟨d, _, ty, pos, aft, some g0⟩) hF.size hF.rel hw]; simp)]
   exact hK _ _ (kk.out H wd _ hs (hF.put (.opt (fun e => by cases e) fun _ => rfl) d))
  | true =>
   rw [if_pos (wanted_fit (o := ⟨d, _, ty, pos, aft, some g0⟩) hF.size hF.rel hw)]
   unfold Oper.wp
   have hr : Reads H n (opn F (Op.call ⟨.invoke x nm, xs.toArray, ts⟩).operands.toList) (Op.call ⟨.invoke x nm, xs.toArray, ts⟩).operands a.eval := fun y hm av hav => by
    cases y with
    | tmp s =>
     simp only [oget] at hav
     split at hav
     ·rename_i hlt
      rcases opn_look hav with e | ⟨b, e, hx⟩
      ·exact hF.eval (x := .tmp s) (by simp only [oget]; rw [hlt]; exact e)
      ·have h1 := hF.eval (x := .tmp s) (av := .opt b av) (by simp only [oget]; rw [hlt]; exact e)
       exact h1.inv_opt.1 (hM rfl s b av hx e)
     ·cases hav
    | const v => exact hF.eval (x := .const v) hav
    | global v => exact hF.eval (x := .global v) hav
    | func v => exact hF.eval (x := .func v) hav
   have e1 := hr.v (by simp [Op.operands, Call.operands]) hx
   obtain ⟨u, hu, he⟩ := recv_of hf hL h0 H wd hs
   have e2 : (execOp a.eval ⟨d, .call ⟨.invoke x nm, xs.toArray, ts⟩, ty, pos, aft, some g0⟩).run P wd = .ok (.enter f (#[u] ++ (xs.map a.eval).toArray)) wd := by
    simp only [execOp, resolve, e1]
    have := he (xs.map a.eval).toArray
    simpa using this
   rw [e2]
   simp only [Oper.upon]
   have h := (hc rfl).out H wd (u :: xs.map a.eval) hs (.cons hu (hsb.rel hs (hr.list (fun y hy => by simp [Op.operands, Call.operands, hy]) hv)))
   rw [show (#[u] ++ (xs.map a.eval).toArray : Array Value) = (u :: xs.map a.eval).toArray by simp]
   refine Calls.mono h ?_
   rintro e w' ⟨v, b, H', L', rfl, ⟨rfl, rfl⟩, hrel, hle, hst⟩
   exact hK _ _ (kk.out H' w' _ hst ((hF.mono hle).put (.opt (fun _ => hrel) fun e => by cases e) d))⟩⟩
theorem Eff.stI [TabOK P T] {t U : TypeId} {x y : Operand} {v : Value} {a m : Nat} {z : Bool} {ys : List Int} {b : Int} {td : TD} (i : Nat) (hd : T.get t = some td) (hL : L[i]? = some (.row v U 1 m z (ys.map I))) (hx : oget n F x = some (.v (.pointer (some ⟨blkOf v, a * 1, none⟩)))) (hy : oget n F y = some (I b))
  (h1 : (match td with | .no => false | .st _ _ _ => false | .arr _ _ _ _ => false | _ => true) = true) (hm : m ≤ a) (ha : a < ys.length) :
  Eff P c n ops ⟨d, .store t x y, ty, pos, aft, none⟩ F L fun q L' => q = .v undef ∧ L' = L.set i (.row v U 1 m false ((ys.set a b).map I)) :=
 ⟨fun G Q hag hk => by
  have hk' := hk (.v undef) (L.set i (.row v U 1 m false ((ys.set a b).map I))) ⟨rfl, rfl⟩
  rw [List.map_set] at hk'
  exact Lx.stR (j := 0) (load_one hd (by rintro rfl; cases h1) (by rintro _ _ _ rfl; cases h1) (by rintro _ _ _ _ rfl; cases h1)) rfl (by rw [← look_op hag (by simp [Op.operands])]; exact hx) (by rw [← look_op hag (by simp [Op.operands])]; exact hy) i hL hm (map_getD (f := I) ha) rfl rfl hk'⟩
theorem Kw.ask {W : List Nat → List Ent → Prop} {i : Nat} {is : List Nat} {o : Op} (ho : ops[i]? = some ⟨d, o, ty, pos, aft, none⟩) (hw : W (i :: is) L) (h : Ask P c n true o ty F L fun r => putK d r F fun F => Kw P c n ops W K is F L) : Kw P c n ops W K (i :: is) F L := by
 obtain ⟨r, h1, h2⟩ := h.out
 exact Kw.gr ho hw (h1 rfl) h2
end
end Go.E2
