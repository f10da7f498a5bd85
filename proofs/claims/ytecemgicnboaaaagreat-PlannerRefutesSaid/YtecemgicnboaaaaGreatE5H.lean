/-
  The engine, texts RT, RU.
  Conditions: none beyond the premises of each rule.
-/
import Derived.Test.YtecemgicnboaaaaGreatE5D
import Derived.Test.YtecemgicnboaaaaGreatE5E
namespace Go.E2
open Go.RowKit
abbrev Buf (g d cap : Nat) : Value := .slice (some ⟨g, 0, none⟩) d cap
section
variable {P : Program} {T : Tr} {c : Ctx} {n : Cfg} {ops : Array Oper} {F : Fr} {L : List Ent} {w : Bool} {k : AV → Prop} [hT : TabOK P T]
variable {d : Option Tmp} {ty : TypeId} {pos : String} {aft : Array Edge}
theorem Gr.lenV {t e len cap : Nat} {kk : Nat} {A : Option Addr} {x : Operand} (ht : SlcT P t e kk) (hx : oget n F x = some (.v (.slice A len cap))) : Gr P c n (.call ⟨.builtin .len, #[x], #[t]⟩) ty F L (I len) :=
  .pure fun H w ρ hs hr d pos aft _ => by
    have e := hr.v (by simp [Op.operands, Call.operands]) hx
    exact ⟨.int .i64 len, by simp [execOp, resolve, invoke, builtin, e, Builtin.len_, run_und ht.und, goInt], .v _⟩
theorem Gr.capV {t e len cap : Nat} {kk : Nat} {A : Option Addr} {x : Operand} (ht : SlcT P t e kk) (hx : oget n F x = some (.v (.slice A len cap))) : Gr P c n (.call ⟨.builtin .cap, #[x], #[t]⟩) ty F L (I cap) :=
  .pure fun H w ρ hs hr d pos aft _ => by
    have e := hr.v (by simp [Op.operands, Call.operands]) hx
    exact ⟨.int .i64 cap, by simp [execOp, resolve, invoke, builtin, e, Builtin.cap_, run_und ht.und, goInt], .v _⟩
/-- b[:i:j] of a buffer -/
theorem Gr.slice3 {q q' : IntKind} {i j : Int} {t e kk g len cap : Nat} {x y z : Operand} (ht : SlcT P t e kk) (hx : oget n F x = some (.v (Buf g len cap))) (hy : oget n F y = some (.v (.int q i))) (hz : oget n F z = some (.v (.int q' j))) (h0 : 0 ≤ i ∧ i ≤ j ∧ j ≤ cap) :
    Gr P c n (.slice t x none (some y) (some z)) ty F L (.v (Buf g i.toNat j.toNat)) :=
  .pure fun H w ρ hst hr d pos aft _ => by
    refine ⟨_, ?_, .v _⟩
    have c1 : 0 ≤ j ∧ j ≤ (cap : Int) := by omega
    have c2 : 0 ≤ i ∧ i ≤ (j.toNat : Int) := by omega
    simp only [execOp, Option.map_some, Option.map_none, hr.v (x := x) (by simp [Op.operands]) hx, hr.v (x := y) (by simp [Op.operands]) hy, hr.v (x := z) (by simp [Op.operands]) hz, Instr.sliceAt, Instr.slice, Instr.sliceBounds, Instr.sliceBound, asIntOf]
    simp [run_und ht.und, run_sizeOf' ht.size, c1, c2, add_none]
    intro hlt
    omega
theorem Gr.idxV {q : IntKind} {a : Int} {t e kk g len cap : Nat} {x y : Operand} (ht : SlcT P t e kk) (hx : oget n F x = some (.v (Buf g len cap))) (hy : oget n F y = some (.v (.int q a))) (h0 : 0 ≤ a) (h1 : a < len) :
    Gr P c n (.indexAddr t x y) ty F L (.v (.pointer (some ⟨g, a.toNat * kk, none⟩))) :=
  .pure fun H w ρ hs hr d pos aft _ => by
    refine ⟨_, ?_, .v _⟩
    have : (⟨g, 0, none⟩ : Addr).add (a.toNat * kk) = ⟨g, a.toNat * kk, none⟩ := by rw [add_none, Nat.zero_add]
    simp only [execOp, hr.v (x := x) (by simp [Op.operands]) hx, hr.v (x := y) (by simp [Op.operands]) hy, Instr.indexAt, asIntOf]
    simp [run_und ht.und, h0, h1, run_sizeOf' ht.size, this]
/-- a method bound to its receiver -/
theorem Gr.bound {fn : Go.Fn} {xs : List Operand} {vs : List Value} (h : ogets n F xs = some (vs.map .v)) : Gr P c n (.makeFunc fn xs.toArray #[]) ty F L (.v (.func fn vs.toArray #[])) :=
  .pure fun H w ρ hs hr d pos aft _ => by
    have h1 := (hr.list (fun y hy => by simp [Op.operands, hy]) h)
    have h2 : xs.map ρ = vs := by
      have key : ∀ {vs us : List Value}, RelL H (vs.map AV.v) us → us = vs := by
        intro vs
        induction vs with
        | nil => intro us h; cases h; rfl
        | cons v vs ih => intro us h; cases h with | cons h t => rw [h.inv, ih t]
      exact key h1
    exact ⟨.func fn vs.toArray #[], by simp [execOp, Instr.makeFunc, h2], .v _⟩
/-- a call of a bound method over the local heap -/
theorem Lx.callB {Q : Exit → Act → World → Prop} {rest : List Oper} {gd : Option (Nat × Bool)} {f : FuncId} {x : Operand} {xs : List Operand} {first : List Value} {as1 as2 : List AV} {ts : Array TypeId} {Φ : AV → List Ent → Prop} (hf : EntersT P f) (hg : wantB ops n F gd = some true) (hx : oget n F x = some (.v (.func (.func f) first.toArray #[]))) (hv : ogets n F xs = some as1) (hsb : SbL L as1 as2) (hc : FnL P c f (first.map .v ++ as2) L Φ)
    (k : ∀ a L', Φ a L' → Lx P c n ops Q rest (putF d a F) L') : Lx P c n ops Q (⟨d, .call ⟨.value x, xs.toArray, ts⟩, ty, pos, aft, gd⟩ :: rest) F L :=
  ⟨fun H w a hs hF => by
    refine wpList_step fun K hK => ?_
    rw [if_pos (wanted_fit (o := ⟨d, _, ty, pos, aft, gd⟩) hF.size hF.rel hg)]
    unfold Oper.wp
    have hr := hF.reads (Op.call ⟨.value x, xs.toArray, ts⟩).operands
    rw [run_call hf (hr.v (by simp [Op.operands, Call.operands]) hx)]
    simp only [Oper.upon]
    have hfirst : ∀ l : List Value, RelL H (l.map .v) l := fun l => by
      induction l with
      | nil => exact .nil
      | cons v l ih => exact .cons (.v _) ih
    have h := hc.out H w (first ++ xs.map a.eval) hs ((hfirst first).append (hsb.rel hs (hr.list (fun y hy => by simp [Op.operands, Call.operands, hy]) hv)))
    rw [show (first.toArray ++ (xs.map a.eval).toArray ++ #[] : Array Value) = (first ++ xs.map a.eval).toArray by simp]
    refine Calls.mono h ?_
    rintro e w' ⟨v, b, H', L', rfl, hp, hrel, hle, hst⟩
    exact hK _ _ ((k b L' hp).out H' w' _ hst ((hF.mono hle).put hrel d))⟩
theorem Eff.callB {f : FuncId} {x : Operand} {xs : List Operand} {first : List Value} {as1 as2 : List AV} {ts : Array TypeId} {Φ : AV → List Ent → Prop} (hf : EntersT P f) (hx : oget n F x = some (.v (.func (.func f) first.toArray #[]))) (hv : ogets n F xs = some as1) (hsb : SbL L as1 as2) (hc : FnL P c f (first.map .v ++ as2) L Φ) :
    Eff P c n ops ⟨d, .call ⟨.value x, xs.toArray, ts⟩, ty, pos, aft, none⟩ F L Φ :=
  ⟨fun G Q hag hk => Lx.callB hf rfl (by rw [← look_op hag (by simp [Op.operands, Call.operands])]; exact hx) (by rw [← ogets_op (ops := ops) fun y hy => look_op hag (by simp [Op.operands, Call.operands, hy])]; exact hv) hsb hc hk⟩
/-- a call of a closure over the local heap -/
theorem Lx.callCL {Q : Exit → Act → World → Prop} {rest : List Oper} {gd : Option (Nat × Bool)} {f : FuncId} {x : Operand} {xs : List Operand} {a0 : AV} {as1 as2 caps : List AV} {ts : Array TypeId} {Φ : AV → List Ent → Prop} (hf : EntersT P f) (hg : wantB ops n F gd = some true) (hx : oget n F x = some a0) (hsx : Sb L a0 (.fn (.func f) caps)) (hv : ogets n F xs = some as1) (hsb : SbL L as1 as2) (hc : FnL P c f (as2 ++ caps) L Φ)
    (k : ∀ a L', Φ a L' → Lx P c n ops Q rest (putF d a F) L') : Lx P c n ops Q (⟨d, .call ⟨.value x, xs.toArray, ts⟩, ty, pos, aft, gd⟩ :: rest) F L :=
  ⟨fun H w a hs hF => by
    refine wpList_step fun K hK => ?_
    rw [if_pos (wanted_fit (o := ⟨d, _, ty, pos, aft, gd⟩) hF.size hF.rel hg)]
    unfold Oper.wp
    have hr := hF.reads (Op.call ⟨.value x, xs.toArray, ts⟩).operands
    obtain ⟨vs, e, hcap⟩ := (hsx.rel hs (hr x (by simp [Op.operands, Call.operands]) _ hx)).inv_fn
    rw [run_call hf e]
    simp only [Oper.upon]
    have h := hc.out H w (xs.map a.eval ++ vs) hs ((hsb.rel hs (hr.list (fun y hy => by simp [Op.operands, Call.operands, hy]) hv)).append hcap)
    rw [show (#[] ++ (xs.map a.eval).toArray ++ vs.toArray : Array Value) = (xs.map a.eval ++ vs).toArray by simp]
    refine Calls.mono h ?_
    rintro e w' ⟨v, b, H', L', rfl, hp, hrel, hle, hst⟩
    exact hK _ _ ((k b L' hp).out H' w' _ hst ((hF.mono hle).put hrel d))⟩
theorem Eff.callCL {f : FuncId} {x : Operand} {xs : List Operand} {a0 : AV} {as1 as2 caps : List AV} {ts : Array TypeId} {Φ : AV → List Ent → Prop} (hf : EntersT P f) (hx : oget n F x = some a0) (hsx : Sb L a0 (.fn (.func f) caps)) (hv : ogets n F xs = some as1) (hsb : SbL L as1 as2) (hc : FnL P c f (as2 ++ caps) L Φ) :
    Eff P c n ops ⟨d, .call ⟨.value x, xs.toArray, ts⟩, ty, pos, aft, none⟩ F L Φ :=
  ⟨fun G Q hag hk => Lx.callCL hf rfl (by rw [← look_op hag (by simp [Op.operands, Call.operands])]; exact hx) hsx (by rw [← ogets_op (ops := ops) fun y hy => look_op hag (by simp [Op.operands, Call.operands, hy])]; exact hv) hsb hc hk⟩
/-- a buffer made -/
theorem Eff.mkB {t e bytes N : Nat} {z : Value} {x y : Operand} (hd : T.get t = some (.sl e 1 bytes)) (hb : Nat.blt 0 bytes = true) (hz : (P.info? e).bind (·.zero) = some z) (hc : z.cells = #[z]) (hx : oget n F x = some (I 0)) (hy : oget n F y = some (I N)) (hN : N * bytes ≤ 281474976710656 ∧ N ≤ 1000000000) :
    Eff P c n ops ⟨d, .makeSlice t x y, ty, pos, aft, none⟩ F L fun r L' => ∃ g, r = .v (Buf g 0 N) ∧ L' = .blk g e false (List.replicate N (.v z)) :: L :=
  Eff.op fun G H w a hag hs hF => by
    obtain ⟨i, z', h1, h2, h3, h4, h5, h6, h7, h8⟩ := ((tab_sl hT hd).2.2 (by omega) (by simpa using hb)).parts
    have ez : z' = z := by
      rw [h2] at hz
      simp only [Option.bind_some] at hz
      rw [h3] at hz
      exact Option.some.inj hz
    subst ez
    have e1 := (hF.eval (by rw [← hag x (by simp [Op.operands])]; exact hx)).inv
    have e2 := (hF.eval (by rw [← hag y (by simp [Op.operands])]; exact hy)).inv
    have hr := run_make (P := P) w t e i z' h1 h2 h3 .i64 .i64 0 (N : Int) (by omega) (by omega) (by rw [h5, ← Int.natCast_mul, Nat.mul_comm]; exact Int.ofNat_le.2 hN.1) (by omega)
    rw [Int.toNat_natCast, h4, hc, Nat.mul_one, made_one] at hr
    have hst := hs.trans (St.new hs.hin e (cs := List.replicate N (.v z')) (us := List.replicate N z') (by
      rw [show List.replicate N (AV.v z') = (List.replicate N z').map AV.v by simp]
      exact relL_v H _))
    exact ⟨_, _, _, _, H, _, by simp [execOp, e1, e2, hr], .inl rfl, Cells.le_refl _, hst, .v _, ⟨_, rfl, rfl⟩⟩
/-- a buffer appended to where there is room -/
theorem Eff.appB {t e bytes g len cap : Nat} {s x : Operand} {a b : AV} {cs : List AV} (j : Nat) (hd : T.get t = some (.sl e 1 bytes)) (hb : Nat.blt 0 bytes = true) (hL : L[j]? = some (.blk g e false cs)) (hs : oget n F s = some (.v (Buf g len cap))) (hx : oget n F x = some a) (hsb : Sb L a (.sl 1 [b])) (h1 : b.one = true) (hb1 : b.cells = [b]) (hroom : len < cap) (hcs : cs.length = cap) :
    Eff P c n ops ⟨d, .call ⟨.builtin .append, #[s, x], #[t, t]⟩, ty, pos, aft, none⟩ F L fun r L' => r = .v (Buf g (len + 1) cap) ∧ L' = L.set j (.blk g e false (cs.set len b)) :=
  Eff.op fun G H w ac hag hst hF => by
    obtain ⟨i, z', q1, q2, q3, q4, q5, q6, q7, q8⟩ := ((tab_sl hT hd).2.2 (by omega) (by simpa using hb)).parts
    have e1 := (hF.eval (by rw [← hag s (by simp [Op.operands, Call.operands])]; exact hs)).inv
    have hxr := hsb.rel hst (hF.eval (by rw [← hag x (by simp [Op.operands, Call.operands])]; exact hx))
    obtain ⟨A, cap', ex, g1, g2, g3⟩ := hxr.inv_sl
    obtain ⟨b0, off, rfl, hE⟩ := g3 (by simp)
    cases hE with
    | cons hk hC ht =>
    rw [hb1] at hC
    cases hC with
    | @cons _ _ _ u _ hu hrel _ =>
    obtain ⟨us, hg, hrl⟩ := blk_at hst hL
    have hul : us.length = cap := by rw [← hrl.len, hcs]
    have hone : u.oneCell' = true := by
      exact (hrel.one h1).1
    have hr := run_append_room (P := P) w t ty e i q1 q2 g len cap us.toArray hg ⟨b0, off, none⟩ 1 cap' [u] (by rw [q4]; rfl) (fun jj uu hj => by
      cases jj with
      | zero =>
        simp only [List.getElem?_cons_zero, Option.some.injEq] at hj
        subst hj
        have : (⟨b0, off, none⟩ : Addr).add 0 = ⟨b0, off, none⟩ := by rw [add_none, Nat.add_zero]
        rw [this]
        exact hst.hin _ _ _ hu
      | succ jj => simp at hj) (fun x hx => by rw [List.mem_singleton] at hx; rw [hx]; exact hone) hroom (by rw [q4]; simp; omega)
    rw [q4] at hr
    have e5 : (us.toArray.toList.take (len * 1) ++ [u] ++ us.toArray.toList.drop (len * 1 + [u].length)) = us.set len u := by
      simp only [Nat.mul_one, List.length_cons, List.length_nil]
      rw [List.set_eq_take_append_cons_drop, if_pos (by omega)]
      simp
    rw [e5] at hr
    refine ⟨_, _, _, _, H, _, ?_, .inl rfl, Cells.le_refl _, hst.setRow hL (hrl.set hrel len), .v _, ⟨rfl, rfl⟩⟩
    simp only [execOp, resolve, invoke, builtin, List.map_toArray, List.map_cons, List.map_nil, Sem.run_bind, Sem.run_pure, Result.andThen_ok, e1, ex]
    simp only [List.length_cons, List.length_nil] at hr ⊢
    simp [hr]
theorem flat_cells {l : List AV} (h : ∀ x ∈ l, x.cells = [x]) : l.flatMap AV.cells = l := by
  induction l with
  | nil => rfl
  | cons x l ih => rw [List.flatMap_cons, h x (by simp), ih fun y hy => h y (by simp [hy])]; rfl
/-- a row appended to with what a buffer holds -/
theorem Eff.appFB {t e U bytes m g len cap : Nat} {z z2 : Bool} {s x : Operand} {v : Value} {xs cs : List AV} (i j : Nat) (hd : T.get t = some (.sl e 1 bytes)) (hb0 : Nat.blt 0 bytes = true) (hi : L[i]? = some (.row v e 1 m z xs)) (hj : L[j]? = some (.blk g U z2 cs)) (hs : oget n F s = some (.v v)) (hx : oget n F x = some (.v (Buf g len cap)))
    (hlen : len ≤ cs.length) (h1 : cs.all AV.one = true) (hc1 : ∀ x ∈ cs, x.cells = [x]) (hb : (xs.length + len) * bytes ≤ 140737488355328) :
    Eff P c n ops ⟨d, .call ⟨.builtin .append, #[s, x], #[t, t]⟩, ty, pos, aft, none⟩ F L fun r L' => ∃ v', r = .v v' ∧ L' = L.set i (.row v' e 1 m false (xs ++ cs.take len)) :=
  Eff.op fun G H w ac hag hst hF => by
    obtain ⟨i0, zz, q1, q2, q3, q4, q5, q6, q7, q8⟩ := ((tab_sl hT hd).2.2 (by omega) (by simpa using hb0)).parts
    obtain ⟨us, hrow, hrel, hcl, hm, hno, hyes⟩ := hst.holds _ (List.mem_of_getElem? hi)
    have hle : xs.length + len ≤ maxLen := by
      have : (xs.length + len) * 1 ≤ (xs.length + len) * bytes := Nat.mul_le_mul_left _ q8
      unfold maxLen
      omega
    have hsv := (hF.eval (by rw [← hag s (by simp [Op.operands, Call.operands])]; exact hs)).inv
    have hxv := (hF.eval (by rw [← hag x (by simp [Op.operands, Call.operands])]; exact hx)).inv
    obtain ⟨vs, hg, hrl⟩ := blk_at hst hj
    have hvl : vs.length = cs.length := hrl.len.symm
    have htk : ∀ y ∈ cs.take len, y ∈ cs := fun y hy => List.mem_of_mem_take hy
    have hft : (cs.take len).flatMap AV.cells = cs.take len := flat_cells fun y hy => hc1 y (htk y hy)
    have hfl : (cs.take len).length = len := by rw [List.length_take]; omega
    by_cases hne : len = 0
    · subst hne
      refine ⟨.value v, w, v, .v v, H, _, ?_, .inl rfl, Cells.le_refl _, ?_, .v _, ⟨v, rfl, rfl⟩⟩
      · rcases hrow.2 with ⟨rfl, _⟩ | ⟨g', cap', cur, rfl, _, _, c1, _⟩
        · simp only [execOp, resolve, invoke, builtin]
          simp [hsv, hxv, Builtin.append_, run_und q1, sizeOf, typeInfo, q2, Builtin.lenOf, Builtin.firstCells, loadCells, loadCellsFrom]
        · simp only [execOp, resolve, invoke, builtin]
          simp [hsv, hxv, Builtin.append_, run_und q1, sizeOf, typeInfo, q2, Builtin.lenOf, Builtin.firstCells, c1, loadCells, loadCellsFrom, storeCells]
      · rw [List.take_zero, List.append_nil]
        exact hst.turn hi hst.hin ⟨us, hrow, hrel, hcl, hm, hno, fun h => by cases h⟩ ⟨rfl, rfl, rfl, Nat.le_refl _, fun _ _ _ => rfl⟩ (.inl rfl) (Nat.le_refl _)
    · have hnl : (vs.take len).length = len * 1 := by rw [List.length_take]; omega
      have hcells : ∀ j u, (vs.take len)[j]? = some u → w.cell? ((⟨g, 0, none⟩ : Addr).add j) = some u := fun j u hu => by
        rw [add_none, Nat.zero_add]
        rw [List.getElem?_take] at hu
        split at hu
        · simpa [World.cell?, hg] using hu
        · cases hu
      have hone : ∀ u ∈ vs.take len, u.oneCell' = true := fun u hu => hrl.oneAll h1 u (List.mem_of_mem_take hu)
      obtain ⟨v', w', hrun, r1, r2, _, r4⟩ := run_append_own_at (P := P) w c.w0.heap.size t ty e i0 zz 1 bytes q1 q2 q3 q4 q5 q6 q7 v xs.length us hrow ⟨g, 0, none⟩ len cap (vs.take len) hnl hcells hone hle hb hst.size
      have hkeep := append_keeps (P := P) (w := w) (ty := ty) q1 q2 q3 (by rw [q4]; exact hrow) (by rw [q4]; exact hnl) hcells hone hle (by rw [q5]; exact hb) hrun
      have hdraw := append_draws (P := P) (w := w) (ty := ty) q1 q2 q3 (by rw [q4]; exact hrow) (by rw [q4]; exact hnl) hcells hone hle (by rw [q5]; exact hb) hne hrun
      rw [q4] at hkeep
      have hH : ∀ g o u, v.ownBlock = some g → H g o = some u → o < xs.length * 1 := fun g o u hg hu => by
        rcases Nat.lt_or_ge o (xs.length * 1) with h | h
        · exact h
        · rw [hno g hg o (Nat.le_trans (Nat.mul_le_mul_right _ hm) h)] at hu; cases hu
      have hin' : HIn H w' := fun g o u hu => by
        by_cases hgb : v.ownBlock = some g
        · rw [hkeep g o hgb (hH g o u hgb hu)]; exact hst.hin g o u hu
        · have hbk := r2.block g (hst.hin.lt hu) (fun e => hgb e.symm)
          rw [← hst.hin g o u hu]
          simp [World.cell?, hbk]
      refine ⟨.value v', w', v', .v v', H, _, ?_, .inl rfl, Cells.le_refl _, hst.turn hi (e' := .row v' e 1 m false (xs ++ cs.take len)) hin' ?_ r2 ?_ hdraw, .v _, ⟨v', rfl, rfl⟩⟩
      · simp [execOp, resolve, invoke, builtin, hsv, hxv, hrun]
      · refine ⟨us ++ vs.take len, by rw [List.length_append, hfl]; exact r1, by rw [List.flatMap_append, hft]; exact hrel.append (hrl.take len), fun x hx => ?_, by rw [List.length_append]; omega, fun g hg o ho => ?_, fun h => by cases h⟩
        · rcases List.mem_append.1 hx with h | h
          · exact hcl x h
          · rw [hc1 x (htk x h)]; rfl
        · rcases r4 with r4 | r4
          · rw [r4] at hg; exact hno g hg o ho
          · rw [r4] at hg
            cases hg
            cases hu : H w.heap.size o with
            | none => rfl
            | some u => have := hst.hin.lt hu; omega
      · rcases r4 with r4 | r4
        · exact .inl r4
        · exact .inr (.inl r4)
/-- a buffer is not nil -/
theorem Gr.bufNil {t e kk b g len cap : Nat} {t' : TypeId} {x : Operand} (hd : T.get t = some (.sl e kk b)) (hx : oget n F x = some (.v (Buf g len cap))) : Gr P c n (.binOp .eql t x (.const (.slice none 0 0)) t') ty F L (B false) :=
  .pure fun H w ρ hs hr d pos aft _ => by
    have e1 := hr.v (x := x) (by simp [Op.operands]) hx
    have e2 := hr.v (x := .const (.slice none 0 0)) (by simp [Op.operands]) rfl
    refine ⟨.bool false, ?_, .v _⟩
    simp [execOp, e1, e2, eqGuard, Lib.run_eql_slice_nil w t e _ _ _ _ _ (tab_sl inferInstance hd).1.und]
end
/-! calls that look at a buffer for a while -/
theorem St.forget {c : Ctx} {H H1 H2 : Cells} {w w' : World} {L : List Ent} (h : St c H w L) (h1 : H.le H1) (hk : St ⟨w, H1⟩ H2 w' []) : St c H w' L := by
  refine ⟨h.below.trans (hk.below.mono h.size), h.le, fun b o u hu => hk.hin b o u (hk.le b o u (h1 b o u hu)), h.old, fun e he => ?_, h.apart, Nat.le_trans h.dr hk.dr⟩
  exact (h.holds e he).keep (Nat.le_refl _) (Cells.le_refl _) (fun g hg => hk.below.block g (Ent.own_ge (h.holds e he) hg).2) (fun _ _ _ h => h)
theorem relC_take {H : Cells} : ∀ {b o : Nat} {cs : List AV}, RelC H b o cs → ∀ k, RelC H b o (cs.take k)
  | _, _, _, _, 0 => .nil
  | _, _, [], .nil, _ + 1 => .nil
  | _, _, _ :: _, .cons hu h t, k + 1 => .cons hu h (relC_take t k)
theorem relC_mono {H H' : Cells} (hl : H.le H') {b o : Nat} {cs : List AV} (h : RelC H b o cs) : RelC H' b o cs := h.mono hl
/-- arguments some of which point into a block, or are the first integers of a buffer -/
inductive SbT (gs : Nat) (cs : List AV) (g cap : Nat) (zs : List Int) : List AV → List AV → Prop
  | nil : SbT gs cs g cap zs [] []
  | ptr (off : Nat) {us bs : List AV} (t : SbT gs cs g cap zs us bs) : SbT gs cs g cap zs (.v (.pointer (some ⟨gs, off, none⟩)) :: us) (.fp cs off :: bs)
  | buf (len : Nat) (hl : len ≤ zs.length) {us bs : List AV} (t : SbT gs cs g cap zs us bs) : SbT gs cs g cap zs (.v (Buf g len cap) :: us) (.sl 1 ((zs.take len).map I) :: bs)
  | same (a : AV) {us bs : List AV} (t : SbT gs cs g cap zs us bs) : SbT gs cs g cap zs (a :: us) (a :: bs)
theorem SbT.rel {H H1 : Cells} {gs : Nat} {cs : List AV} {g cap : Nat} {zs : List Int} (hle : H.le H1) (hS : RelC H1 gs 0 cs) (hC : RelC H1 g 0 (zs.map I)) (hc : zs.length ≤ cap) (hm : cap ≤ maxLen) : ∀ {us bs : List AV} {vs : List Value}, SbT gs cs g cap zs us bs → RelL H us vs → RelL H1 bs vs
  | _, _, _, .nil, .nil => .nil
  | _, _, _, .same _ t, .cons h t' => .cons (h.mono hle) (t.rel hle hS hC hc hm t')
  | _, _, _, .ptr off t, .cons h t' => by
    refine .cons ?_ (t.rel hle hS hC hc hm t')
    have e := h.inv
    subst e
    have := Rel.fp (off := off) hS
    rwa [Nat.zero_add] at this
  | _, _, _, .buf len hl t, .cons h t' => by
    refine .cons ?_ (t.rel hle hS hC hc hm t')
    have e := h.inv
    subst e
    by_cases h0 : len = 0
    · subst h0
      exact .sl0 (by omega)
    · have hf : ∀ l : List Int, (l.map I).flatMap AV.cells = l.map I := fun l => flat_cells (by simp [AV.cells])
      have hE : RelE H1 1 g 0 ((zs.take len).map I) := RelE.of (fun y hy => by obtain ⟨q, _, rfl⟩ := List.mem_map.1 hy; rfl) (by
        rw [hf, List.map_take]
        exact relC_take hC len)
      have hlen : ((zs.take len).map I).length = len := by simp; omega
      have := Rel.sl (cap := cap) hE (by rw [hlen]; omega) hm
      rwa [hlen] at this
section
variable {P : Program} {T : Tr} {c : Ctx} {n : Cfg} {F : Fr} {L : List Ent} {ty : TypeId}
/-- a call that looks at a block and at a buffer for a while, and returns a value that holds neither -/
theorem Gr.callF {gs g cap : Nat} {S U : TypeId} {f : FuncId} {x : Operand} {xs : List Operand} {cs : List AV} {zs : List Int} {as1 as2 : List AV} {ts : Array TypeId} {u : Value} (i j : Nat) (hS : L[i]? = some (.blk gs S false cs)) (hL : L[j]? = some (.blk g U false (zs.map I))) (hij : i ≠ j) (hz : zs.length ≤ cap ∧ cap ≤ maxLen) (hf : EntersT P f) (hc : FnA P f as2 (.v u))
    (hx : oget n F x = some (.v (.func (.func f) #[] #[]))) (hv : ogets n F xs = some as1) (hsb : SbT gs cs g cap zs as1 as2) :
    Gr P c n (.call ⟨.value x, xs.toArray, ts⟩) ty F L (.v u) :=
  ⟨fun H w ρ hs hr d pos aft gd => by
    rw [run_call hf (hr.v (by simp [Op.operands, Call.operands]) hx)]
    refine ⟨rfl, ?_⟩
    obtain ⟨H1, l1, s1, c1⟩ := hs.freezeBlk hS
    obtain ⟨H2, l2, s2, c2⟩ := s1.freezeBlk (i := j) (by rw [List.getElem?_set_ne hij]; exact hL)
    have h := hc.out H2 w (xs.map ρ) s2.hin (hsb.rel (l1.trans l2) (relC_mono l2 c1) c2 hz.1 hz.2 (hr.list (fun y hy => by simp [Op.operands, Call.operands, hy]) hv))
    rw [show (#[] ++ (xs.map ρ).toArray ++ #[] : Array Value) = (xs.map ρ).toArray by simp]
    refine Calls.mono h ?_
    rintro e w' ⟨v, a, H', E, rfl, ⟨rfl, rfl⟩, hrel, hst⟩
    exact ⟨v, H, rfl, (St.refl hs.hin).forget (l1.trans l2) hst, by rw [hrel.inv]; exact .v _⟩⟩
end
section
variable {P : Program} {T : Tr} {c : Ctx} {n : Cfg} {ops : Array Oper} {F : Fr} {L : List Ent} {w : Bool} {k : AV → Prop} [hT : TabOK P T]
variable {d : Option Tmp} {ty : TypeId} {pos : String} {aft : Array Edge}
theorem bN {t e kk b len cap : Nat} {A : Option Addr} {x : Operand} (hk : k (I len)) (hd : T.get t = some (.sl e kk b) := by exact rfl) (hx : oget n F x = some (.v (.slice A len cap)) := by exact rfl) : Ask P c n w (.call ⟨.builtin .len, #[x], #[t]⟩) ty F L k := .of (Gr.lenV (tab_sl hT hd).1 hx) hk
theorem bC {t e kk b len cap : Nat} {A : Option Addr} {x : Operand} (hk : k (I cap)) (hd : T.get t = some (.sl e kk b) := by exact rfl) (hx : oget n F x = some (.v (.slice A len cap)) := by exact rfl) : Ask P c n w (.call ⟨.builtin .cap, #[x], #[t]⟩) ty F L k := .of (Gr.capV (tab_sl hT hd).1 hx) hk
theorem bS {q q' : IntKind} {i j : Int} {t e kk b g len cap : Nat} {x y z : Operand} (hk : k (.v (Buf g i.toNat j.toNat))) (hd : T.get t = some (.sl e kk b) := by exact rfl) (hx : oget n F x = some (.v (Buf g len cap)) := by exact rfl) (hy : oget n F y = some (.v (.int q i)) := by exact rfl) (hz : oget n F z = some (.v (.int q' j)) := by exact rfl) (h0 : w = true → 0 ≤ i ∧ i ≤ j ∧ j ≤ cap := by exact Qw) :
    Ask P c n w (.slice t x none (some y) (some z)) ty F L k := .ofW (fun h => Gr.slice3 (tab_sl hT hd).1 hx hy hz (h0 h)) hk
theorem bI {q : IntKind} {a : Int} {t e kk b g len cap : Nat} {x y : Operand} (hk : k (.v (.pointer (some ⟨g, a.toNat * kk, none⟩)))) (hd : T.get t = some (.sl e kk b) := by exact rfl) (hx : oget n F x = some (.v (Buf g len cap)) := by exact rfl) (hy : oget n F y = some (.v (.int q a)) := by exact rfl) (h0 : w = true → 0 ≤ a ∧ a < len := by exact Qw) :
    Ask P c n w (.indexAddr t x y) ty F L k := .ofW (fun h => Gr.idxV (tab_sl hT hd).1 hx hy (h0 h).1 (h0 h).2) hk
theorem bL {t U : TypeId} {x : Operand} {g a i : Nat} {z : Bool} {td : TD} {ys : List Int} (hk : k (I (ys.getD a default))) (hd : T.get t = some td := by exact rfl) (h1 : oneK td = true := by exact rfl) (hx : oget n F x = some (.v (.pointer (some ⟨g, a * 1, none⟩))) := by exact rfl) (hL : L[i]? = some (.blk g U z (ys.map I)) := by exact Qj) (h : w = true → a < ys.length := by exact Qw) :
    Ask P c n w (.load t x) ty F L k := .ofW (fun hh => Gr.ldB (one_of hd h1) hx i hL (by rw [Nat.mul_one]; exact map_getD (h hh))) hk
theorem Eff.box {t : TypeId} {x : Operand} {a : AV} {cs : List AV} (hx : oget n F x = some a) (hok : a.ok = true) (hcs : a.cells = cs) : Eff P c n ops ⟨d, .box t x, ty, pos, aft, none⟩ F L fun r L' => ∃ b, r = .v (.pointer (some ⟨b, 0, none⟩)) ∧ L' = .blk b t false cs :: L :=
  ⟨fun _ _ hag hk => Lx.boxOf rfl (by rw [← look_op hag (by simp [Op.operands])]; exact hx) hok hcs fun b => hk _ _ ⟨b, rfl, rfl⟩⟩
end
section
variable {P : Program} {T : Tr} {c : Ctx} {n : Cfg} {ops : Array Oper} {F : Fr} {L : List Ent}
variable {d : Option Tmp} {ty : TypeId} {pos : String} {aft : Array Edge}
/-- operands read under a guard -/
inductive SeesL (n : Cfg) (F : Fr) (w : Bool) : List Operand → List AV → Prop
  | nil : SeesL n F w [] []
  | opt {x : Operand} {xs : List Operand} {b : Bool} {a : AV} {bs : List AV} (h : oget n F x = some (.opt b a)) (hb : w = true → b = true) (t : SeesL n F w xs bs) : SeesL n F w (x :: xs) (a :: bs)
  | one {x : Operand} {xs : List Operand} {a : AV} {bs : List AV} (h : oget n F x = some a) (t : SeesL n F w xs bs) : SeesL n F w (x :: xs) (a :: bs)
theorem SeesL.rel {H : Cells} {w : Bool} {a : Act} (hF : Fit H n F a) (hw : w = true) : ∀ {xs : List Operand} {bs : List AV}, SeesL n F w xs bs → RelL H bs (xs.map a.eval)
  | _, _, .nil => .nil
  | _, _, .opt h hb t => .cons ((hF.eval h).inv_opt.1 (hb hw)) (t.rel hF hw)
  | _, _, .one h t => .cons (hF.eval h) (t.rel hF hw)
theorem SeesL.of {w : Bool} {G : Fr} : ∀ {xs : List Operand} {bs : List AV}, (∀ x ∈ xs, oget n F x = oget n G x) → SeesL n F w xs bs → SeesL n G w xs bs
  | _, _, _, .nil => .nil
  | _, _, h, .opt h1 hb t => .opt (by rw [← h _ (by simp)]; exact h1) hb (t.of fun x hx => h x (by simp [hx]))
  | _, _, h, .one h1 t => .one (by rw [← h _ (by simp)]; exact h1) (t.of fun x hx => h x (by simp [hx]))
theorem Qx {p : Prop} (h : p := by (repeat (first | exact SeesL.nil | refine SeesL.opt rfl (fun h => h) ?_ | refine SeesL.one rfl ?_)) <;> fail) : p := h
theorem want_of {G : Fr} {o : Oper} (hag : ∀ d, d ∈ o.looksAt ops → look F d = look G d) {b : Bool} (h : wantB ops n F o.guard = some b) : wantB ops n G o.guard = some b := by
  unfold wantB wantF at *
  cases hg : o.guard with
  | none => rw [hg] at h; exact h
  | some q =>
    obtain ⟨j, bb⟩ := q
    rw [hg] at h
    simp only at h ⊢
    cases hs : gslot ops j with
    | none => rw [hs] at h; cases h
    | some dd =>
      rw [hs] at h
      simp only at h ⊢
      rw [← hag dd (by
        unfold Oper.looksAt
        rw [hg]
        refine List.mem_append_right _ ?_
        unfold gslot at hs
        simp only
        rw [hs]
        simp)]
      exact h
/-- a guarded call whose result is told by its contract alone -/
theorem Eff.callW {gd : Option (Nat × Bool)} {w : Bool} {f : FuncId} {x : Operand} {xs : List Operand} {as1 as2 : List AV} {ts : Array TypeId} {Φ : AV → List Ent → Prop} (hf : EntersT P f) (hw : wantB ops n F gd = some w) (hc : w = true → FnE P f as2 Φ) (hΦ : ∀ a E, Φ a E → E = []) (hx : oget n F x = some (.v (.func (.func f) #[] #[]))) (hv : SeesL n F w xs as1) (hsb : SbL L as1 as2) (a0 : AV) :
    Eff P c n ops ⟨d, .call ⟨.value x, xs.toArray, ts⟩, ty, pos, aft, gd⟩ F L fun r L' => ∃ a, (w = true → Φ a []) ∧ (w = false → a = a0) ∧ r = .opt w a ∧ L' = L :=
  ⟨fun G Q hag hk => ⟨fun H wd a hs hF => by
    refine wpList_step fun K' hK => ?_
    have hw' := want_of (n := n) hag hw
    have hx' : oget n G x = some (.v (.func (.func f) #[] #[])) := by rw [← look_op hag (by simp [Op.operands, Call.operands])]; exact hx
    have hv' : SeesL n G w xs as1 := hv.of fun y hy => look_op hag (by simp [Op.operands, Call.operands, hy])
    cases w with
    | false =>
      rw [if_neg (by rw [wanted_fit (o := ⟨d, _, ty, pos, aft, gd⟩) hF.size hF.rel hw']; simp)]
      exact hK _ _ ((hk (.opt false a0) L ⟨_, fun e => (by cases e), fun _ => rfl, rfl, rfl⟩).out H wd _ hs (hF.put (.opt (fun e => by cases e) fun _ => rfl) d))
    | true =>
      rw [if_pos (wanted_fit (o := ⟨d, _, ty, pos, aft, gd⟩) hF.size hF.rel hw')]
      unfold Oper.wp
      have hr := hF.reads (Op.call ⟨.value x, xs.toArray, ts⟩).operands
      rw [run_call hf (hr.v (by simp [Op.operands, Call.operands]) hx')]
      simp only [Oper.upon]
      have h := (hc rfl).out H wd (xs.map a.eval) hs.hin (hsb.rel hs (hv'.rel hF rfl))
      rw [show (#[] ++ (xs.map a.eval).toArray ++ #[] : Array Value) = (xs.map a.eval).toArray by simp]
      refine Calls.mono h ?_
      rintro e w' ⟨v, b, H', E, rfl, hp, hrel, hst⟩
      obtain rfl := hΦ _ _ hp
      have h2 := hs.trans hst
      exact hK _ _ ((hk (.opt true b) L ⟨b, fun _ => hp, fun e => (by cases e), rfl, rfl⟩).out H' w' _ h2 ((hF.mono hst.le).put (.opt (fun _ => hrel) fun e => by cases e) d))⟩⟩
end
/-! regions of open order with one effect, free operations before and after it -/
def tailQ (ops : Array Oper) (p m : Nat) : Bool :=
  ((List.range p).all fun i => edgeB ops p i || (List.range p).any fun k => Nat.blt i k && edgeB ops k i) && (List.range m).all fun t => Nat.ble t p || (List.range t).any fun k => Nat.ble p k && edgeB ops t k
theorem tailQ_spec {ops : Array Oper} {p m : Nat} (hm : ops.size = m) (h : tailQ ops p m = true) (listed : Array Bool) (hc : Closed ops listed) (hu : ∃ i, i < p ∧ listed.getD i true = false) : ∀ j ∈ Region.ready .any ops listed, j < p := by
  simp only [tailQ, Bool.and_eq_true, List.all_eq_true, List.mem_range, Bool.or_eq_true, List.any_eq_true] at h
  obtain ⟨h1, h2⟩ := h
  have hof : ∀ i, listed.getD i true = false → listed.getD i false = false := fun i hi => by
    rcases Nat.lt_or_ge i listed.size with hlt | hge
    · simpa [hlt] using hi
    · simp [Array.getElem?_eq_none hge]
  have hp : ∃ i, edgeB ops p i = true ∧ listed.getD i false = false := by
    obtain ⟨i, hi, hul⟩ := hu
    have hul := hof i hul
    have : ∀ f i, p - i ≤ f → i < p → listed.getD i false = false → ∃ i, edgeB ops p i = true ∧ listed.getD i false = false := by
      intro f
      induction f with
      | zero => intro i h0 hi _; omega
      | succ f ih =>
        intro i h0 hi hul
        rcases h1 i hi with he | ⟨k, hk, hkb⟩
        · exact ⟨i, he, hul⟩
        · have hik : i < k := by simpa [Nat.blt_eq] using hkb.1
          refine ih k (by omega) (by simpa using hk) ?_
          cases hkl : listed.getD k false with
          | false => rfl
          | true =>
            obtain ⟨o, ho, e, he, hb, heq⟩ := edgeB_spec hkb.2
            have := hc k o ho hkl e he hb
            rw [heq, hul] at this
            cases this
    exact this _ i (Nat.le_refl _) hi hul
  have key : ∀ t i, edgeB ops t i = true → listed.getD i false = false → listed.getD t false = false ∧ t ∉ Region.ready .any ops listed := fun t i he hul => by
    obtain ⟨o, ho, e, hm1, hb, heq⟩ := edgeB_spec he
    constructor
    · cases ht : listed.getD t false with
      | false => rfl
      | true =>
        have := hc t o ho ht e hm1 hb
        rw [heq, hul] at this
        cases this
    · intro hr
      obtain ⟨_, o', ho', hall⟩ := mem_ready.1 hr
      rw [ho] at ho'
      cases ho'
      have := hall e hm1 hb
      rw [heq] at this
      rw [hul] at this
      cases this
  have hno : ∀ n t, t ≤ n → p ≤ t → t < m → listed.getD t false = false ∧ t ∉ Region.ready .any ops listed := by
    intro n
    induction n with
    | zero =>
      intro t h0 hpt _
      obtain rfl : t = p := by omega
      obtain ⟨i, he, hul⟩ := hp
      exact key _ _ he hul
    | succ n ih =>
      intro t h0 hpt htm
      rcases Nat.lt_or_eq_of_le hpt with hlt | rfl
      · rcases h2 t htm with h3 | ⟨k, hk, hkb⟩
        · have := Nat.le_of_ble_eq_true h3; omega
        · have hpk := Nat.le_of_ble_eq_true hkb.1
          exact key _ _ hkb.2 (ih k (by omega) hpk (by omega)).1
      · obtain ⟨i, he, hul⟩ := hp
        exact key _ _ he hul
  intro j hj
  rcases Nat.lt_or_ge j p with h | h
  · exact h
  · obtain ⟨_, o', ho', _⟩ := mem_ready.1 hj
    exact absurd hj (hno j j (Nat.le_refl _) h (by rw [← hm]; exact (Array.getElem?_eq_some_iff.1 ho').1)).2
theorem wp_onlyN {P : Program} {o : Oper} {a : Act} {w : World} {Q Q' : Exit → Act → World → Prop} {K K' : Act → World → Prop} (hK : ∀ a w, K a w → K' a w) (h : o.wp P a w K (OnlyN Q)) : o.wp P a w K' (OnlyN Q') := by
  unfold Oper.wp at h ⊢
  generalize (execOp a.eval o).run P w = r at *
  cases r with
  | ok nx w' =>
    cases nx with
    | value v => exact hK _ _ h
    | skip => exact hK _ _ h
    | defer dd => exact hK _ _ h
    | enter f args =>
      refine Calls.mono h ?_
      intro e w'' he
      cases e with
      | returned v => exact hK _ _ he
      | panicked ch => exact he.elim
      | outgrown => obtain ⟨_, _, hx⟩ := he; exact hx.elim
    | row r args => exact Rows.mono h fun _ _ h => hK _ _ h
    | _ => exact h.elim
  | halt x w' => cases x <;> exact h.elim
/-- one after the other, up to what stop says -/
def chainQ (ops : Array Oper) (stop : Array Bool) : Nat → Nat → Array Bool → Bool
  | 0, _, listed => listed == stop
  | fuel + 1, k, listed => (Region.ready .any ops listed == [k]) && chainQ ops stop fuel (k + 1) (listed.setIfInBounds k true)
theorem wpAny_chainQ {P : Program} {ops : Array Oper} {stop : Array Bool} {r : Nat} {Q Q' : Exit → Act → World → Prop} (hK : ∀ a w, Q' .normal a w → wpAny P .any ops (OnlyN Q) r stop a w) : ∀ (l : List Oper) (k : Nat) (listed : Array Bool) (a : Act) (w : World), (∀ j, j < l.length → l[j]? = ops[k + j]?) → chainQ ops stop l.length k listed = true → wpList P ops (OnlyN Q') l a w → wpAny P .any ops (OnlyN Q) (l.length + r) listed a w
  | [], _, _, _, _, _, hB, h => by
    simp only [List.length_nil, chainQ, beq_iff_eq] at hB
    rw [List.length_nil, Nat.zero_add, hB]
    exact hK _ _ h
  | o :: l, k, listed, a, w, hl, hB, h => by
    have h0 : ops[k]? = some o := by simpa using (hl 0 (by simp)).symm
    simp only [List.length_cons, chainQ, Bool.and_eq_true, beq_iff_eq] at hB
    rw [List.length_cons, show l.length + 1 + r = (l.length + r) + 1 by omega]
    refine ⟨fun h1 => (by rw [hB.1] at h1; cases h1), fun i hi => ?_⟩
    rw [hB.1] at hi
    simp only [List.mem_singleton] at hi
    subst hi
    have hn : ∀ a w, wpList P ops (OnlyN Q') l a w → wpAny P .any ops (OnlyN Q) (l.length + r) (listed.setIfInBounds i true) a w := fun a w h => wpAny_chainQ hK l (i + 1) _ a w (fun j hj => by have := hl (j + 1) (by simpa using hj); simpa [Nat.add_assoc, Nat.add_comm 1 j] using this) hB.2 h
    unfold wpOp
    simp only [h0]
    unfold wpList at h
    split at h
    · rename_i hw
      rw [if_pos hw]
      rcases h with h | ⟨_, _, _, hx⟩
      · exact .inl (wp_onlyN hn h)
      · exact hx.elim
    · rename_i hw; rw [if_neg hw]; exact hn _ _ h
def closedB (ops : Array Oper) (q : Nat) : Bool := (List.range q).all fun k => match ops[k]? with
  | some o => o.after.all fun e => !Region.binds .any e || Nat.blt e.on q
  | none => true
theorem lst_get {q m i : Nat} (hq : q ≤ m) (b : Bool) (hi : i < m) : (lst q m).getD i b = decide (i < q) := by
  have hz : (lst q m).size = m := by simp [lst]; omega
  rw [Array.getD_eq_getD_getElem?, Array.getElem?_eq_getElem (by omega), Option.getD_some]
  simp only [lst, List.getElem_toArray]
  rw [List.getElem_append]
  by_cases h : i < q
  · simp [h]
  · simp [h]
theorem closed_lst {ops : Array Oper} {q m : Nat} (hm : ops.size = m) (hq : q ≤ m) (h : closedB ops q = true) : Closed ops (lst q m) := fun k o ho hk e he hb => by
  have hkm : k < m := by rw [← hm]; exact (Array.getElem?_eq_some_iff.1 ho).1
  rw [lst_get hq _ hkm] at hk
  simp only [decide_eq_true_eq] at hk
  simp only [closedB, List.all_eq_true, List.mem_range] at h
  have := h k hk
  rw [ho] at this
  simp only [Array.all_eq_true_iff_forall_mem] at this
  have := this e he
  rw [hb] at this
  simp only [Bool.not_true, Bool.false_or, Nat.blt_eq] at this
  rw [lst_get hq _ (by omega)]
  simpa using this
theorem unl_lst {q m : Nat} (hq : q ≤ m) : ∀ k, k ≤ m → unl k (lst q m) = k - q
  | 0, _ => by simp [unl]
  | k + 1, hk => by
    simp only [unl]
    rw [unl_lst hq k (by omega), lst_get hq _ (by omega)]
    by_cases h : k < q
    · simp [h]; omega
    · simp [h]; omega
def anyQB (ops : Array Oper) (p q : Nat) : Bool := Nat.ble p q && Nat.ble q ops.toList.length && (ops.toList.all fun o => noDef o.op) && lexTo ops p p 0 (lst 0 ops.toList.length) && (Nat.beq p ops.toList.length || tailQ ops p ops.toList.length) && chainQ ops (lst q ops.toList.length) (q - p) p (lst p ops.toList.length) && closedB ops q && lexTo ops ops.toList.length (ops.toList.length - q) q (lst q ops.toList.length) && (Region.ready .any ops (lst ops.toList.length ops.toList.length)).isEmpty
/-- regions of open order: free up to p, one after the other up to q, free from q on -/
theorem CK.anyQ {P : Program} {T : Tr} [hT : TabOK P T] {c : Ctx} {m : Nat} {ro : Option Nat} {K : KT} {ds : List Deferred} {F : Fr} {L : List Ent} {id : Nat} {ops : Array Oper} (p q : Nat) (hB : anyQB ops p q = true)
    (h : wpo P T c ⟨m, ds, ro⟩ ops L (fun F => wpl P T c ⟨m, ds, ro⟩ ops (fun F L' => wpo P T c ⟨m, ds, ro⟩ ops L' (fun F => K ds .normal F L') (ops.toList.drop q) F) ((ops.toList.take q).drop p) F L) (ops.toList.take p) F) : CK P T c m ro (.region id ops true) K ds F L := by
  simp only [anyQB, Bool.and_eq_true] at hB
  obtain ⟨⟨⟨⟨⟨⟨⟨⟨h1, h2⟩, h3⟩, h4⟩, h5⟩, h6⟩, h7⟩, h8⟩, h9⟩ := hB
  have h1 := Nat.le_of_ble_eq_true h1
  have h2 := Nat.le_of_ble_eq_true h2
  generalize hN : ops.toList.length = N at *
  have hsz : ops.size = N := by rw [← hN]; simp
  refine ⟨fun Q hQ => ⟨fun H w a hs hF _ => ?_⟩⟩
  have e : ops.toList.toArray = ops := Array.toArray_toList
  have key := wpIn_of_any (id := id) (l := ops.toList) (ro := ro) (d := 0) (Q := Q) (a := a) (w := w) h3 hT.fol
  rw [← e]
  refine wpIn_of_any h3 hT.fol ?_
  rw [e]
  obtain ⟨F', h10, h11⟩ := wpo_out h
  have hlp : (ops.toList.take p).length = p := by simp; omega
  have e0 : lst 0 N = Array.replicate N false := by simp [lst]
  let Q' : Exit → Act → World → Prop := fun _ a w => ∃ H F L', St c H w L' ∧ Fit H ⟨m, ds, ro⟩ F a ∧ wpo P T c ⟨m, ds, ro⟩ ops L' (fun F => K ds .normal F L') (ops.toList.drop q) F
  let KK : Fr → Prop := fun F => Lx P c ⟨m, ds, ro⟩ ops Q' ((ops.toList.take q).drop p) F L
  have hKK : ∀ F G, FEq F G → KK F → KK G := fun F G h k => ⟨fun H w a hs hF => k.out H w a hs (hF.weak fun s x hx => by rw [← h s]; exact hx)⟩
  have hA := wpAnyA_lex (P := P) (c := c) (n := ⟨m, ds, ro⟩) (L := L) (ops := ops) (p := p) (K := KK) hKK (ops.toList.take p) 0 (lst 0 N) F F' (fun j hj => by rw [hlp] at hj; rw [List.getElem?_take, if_pos hj]; simp) (by rw [hlp]; exact h4) h10 ((wpl_out h11).out Q' fun F L' hk => ⟨fun H w a hs hF => ⟨H, F, L', hs, hF, hk⟩⟩)
  rw [hlp] at hA
  have := wpAny_of_A (P := P) (c := c) (n := ⟨m, ds, ro⟩) (L := L) (p := p) (m := N) (Q' := OnlyN Q) (K := KK) hsz (by omega) (fun listed hc hu j hj => by
      rcases Bool.or_eq_true _ _ ▸ h5 with he | ht
      · have := Nat.eq_of_beq_eq_true he
        obtain ⟨_, o', ho', _⟩ := mem_ready.1 hj
        rw [this, ← hsz]
        exact (Array.getElem?_eq_some_iff.1 ho').1
      · exact tailQ_spec hsz ht listed hc hu j hj)
    (fun F H w a k hs hF => by
      have hw := k.out H w a hs hF
      have hlm : ((ops.toList.take q).drop p).length = q - p := by simp; omega
      have := wpAny_chainQ (P := P) (ops := ops) (stop := lst q N) (r := N - q) (Q := Q) (Q' := Q') (fun a w hq => by
        obtain ⟨H, F, L', hs, hF, hk⟩ := hq
        obtain ⟨F', h12, h13⟩ := wpo_out hk
        have hld : (ops.toList.drop q).length = N - q := by rw [List.length_drop, hN]
        have hA := wpAnyA_lex (P := P) (c := c) (n := ⟨m, ds, ro⟩) (L := L') (ops := ops) (p := N) (K := fun F => Lx P c ⟨m, ds, ro⟩ ops Q [] F L') (fun F G h k => ⟨fun H w a hs hF => k.out H w a hs (hF.weak fun s x hx => by rw [← h s]; exact hx)⟩) (ops.toList.drop q) q (lst q N) F F' (fun j hj => by simp) (by rw [hld]; exact h8) h12 (Lx.nil (hQ _ _ _ _ h13))
        rw [hld] at hA
        have := wpAny_of_A (P := P) (c := c) (n := ⟨m, ds, ro⟩) (L := L') (p := N) (m := N) (Q' := OnlyN Q) (K := fun F => Lx P c ⟨m, ds, ro⟩ ops Q [] F L') hsz (Nat.le_refl _) (fun listed hc hu j hj => by
            obtain ⟨_, o', ho', _⟩ := mem_ready.1 hj
            rw [← hsz]
            exact (Array.getElem?_eq_some_iff.1 ho').1)
          (fun F H w a k hs hF => by
            rw [Nat.sub_self]
            exact ⟨by simpa using h9, k.out H w a hs hF⟩) (N - q) (lst q N) F H w a (by simp [lst]; omega) (closed_lst hsz h2 h7) (unl_lst h2 N (Nat.le_refl _)) (fun i hi => by
            rw [Array.getD_eq_getD_getElem?, Array.getElem?_eq_none (by simp [lst]; omega)]
            rfl) hA hs hF
        rwa [Nat.sub_self, Nat.add_zero] at this) ((ops.toList.take q).drop p) p (lst p N) a w (fun j hj => by
          rw [hlm] at hj
          rw [List.getElem?_drop, List.getElem?_take, if_pos (by omega)]
          simp) (by rw [hlm]; exact h6) hw
      rwa [hlm, show q - p + (N - q) = N - p by omega] at this) p (lst 0 N) F H _ a (by simp [lst]) (fun k o ho hk => by rw [e0] at hk; simp [Array.getElem?_replicate] at hk; split at hk <;> simp_all) (by
        rw [unl_lst (Nat.zero_le _) p (by omega)]; omega) (fun i _ => by rw [e0]; simp [Array.getElem?_replicate]; split <;> simp) hA hs.drew hF
  rw [show p + (N - p) = N by omega, e0] at this
  rw [hsz]
  exact this
section
variable {P : Program} {c : Ctx} {n : Cfg} {ops : Array Oper} {Q : Exit → Act → World → Prop} {L0 : List Ent}
structure MixQ (ops : Array Oper) (m N : Nat) (cs : List Nat) : Prop where
  size : ops.size = N
  le : m ≤ N
  back : ∀ (k : Nat) (o : Oper), k < m → ops[k]? = some o → ∀ e ∈ o.after, Region.binds .any e = true → e.on < k
  deps : ∀ (k i : Nat) (o o' : Oper) (d : Tmp), k < m → i < m → ops[k]? = some o → ops[i]? = some o' → o'.dst = some d → d ∈ o.looksAt ops → (edgeB ops k i = true ∧ (k ∉ cs → i ∉ cs)) ∨ (i ∈ cs ∧ edgeB ops i k = true)
  dist : ∀ (k i : Nat) (o o' : Oper) (d : Tmp), k < m → i < m → ops[k]? = some o → ops[i]? = some o' → o'.dst = some d → o.dst = some d → k = i
theorem wpAny_mixQ {m N : Nat} {K : Fr → List Ent → Prop} {cs0 : List Nat} {Ff : Fr} (hM : MixQ ops m N cs0) (hT : ∀ listed, Closed ops listed → (∃ i, i < m ∧ listed.getD i true = false) → ∀ j ∈ Region.ready .any ops listed, j < m)
    (hK : ∀ F L H w a, K F L → St c H w L → Fit H n F a → wpAny P .any ops (OnlyN Q) (N - m) (lst m N) a w)
    (hfl : ∀ i o, i < m → ops[i]? = some o → i ∉ cs0 → ∃ r, YieldsA P c n L0 ops o Ff r ∧ ∀ d, o.dst = some d → look Ff d = some r) :
    ∀ (fuel : Nat) (listed : Array Bool) (cs : List Nat) (F G : Fr) (L : List Ent) (H : Cells) (w : World) (a : Act), listed.size = N → Closed ops listed → unl m listed = fuel → (∀ i, m ≤ i → listed.getD i false = false) →
      (∀ i ∈ cs, listed.getD i true = false) → (∀ i ∈ cs0, i ∈ cs ∨ listed.getD i true = true) → (∀ i ∈ cs, i ∈ cs0) → (∀ i ∈ cs0, i < m) → cs.Nodup → chE ops cs = true → Kx P c n ops L0 K cs F L → L0.Sublist L →
      (∀ s, (∀ i o, i ∈ cs0 → ops[i]? = some o → listed.getD i true = true → o.dst ≠ some s) → look F s = look Ff s) →
      (∀ s, (∀ i o, i < m → ops[i]? = some o → listed.getD i true = false → i ∉ cs0 → o.dst ≠ some s) → look G s = look F s) →
      St c H w L → Fit H n G a → wpAny P .any ops (OnlyN Q) (fuel + (N - m)) listed a w := by
  intro fuel
  induction fuel with
  | zero =>
    intro listed cs F G L H w a hsz hc hu h0' h1 h2 h3 h4 hn hch hk hsub hFf hG hst hF
    have hz := unl_zero hu
    rw [Nat.zero_add, lst_of hM.le hsz hz h0']
    cases hk with
    | cons ho R hs hl hk =>
      have := hz _ (h4 _ (h3 _ List.mem_cons_self))
      rw [h1 _ (by simp)] at this
      cases this
    | nil hk =>
      refine hK F L H w a hk hst (hF.weak fun s x hx => ?_)
      rw [hG s fun i o hi ho hl _ => by rw [hz i hi] at hl; cases hl]
      exact hx
  | succ fuel ih =>
    intro listed cs F G L H w a hsz hc hu h0' h1 h2 h3 h4 hn hch hk hsub hFf hG hst hF
    rw [show fuel + 1 + (N - m) = (fuel + (N - m)) + 1 by omega]
    refine ⟨fun h0 => ?_, fun i hi => ?_⟩
    · exfalso
      obtain ⟨i, hi, hl⟩ := unl_pos (k := m) (listed := listed) (by omega)
      obtain ⟨j, g1, g2, g3⟩ := min_unl i hl
      have hjm : j < ops.size := by have := hM.size; have := hM.le; omega
      have hj : j ∈ Region.ready .any ops listed := mem_ready.2 ⟨g2, ops[j], Array.getElem?_eq_getElem hjm, fun e he hb => by
        have hlt := hM.back j _ (by omega) (Array.getElem?_eq_getElem hjm) e he hb
        have := g3 e.on hlt
        have hel : e.on < listed.size := by have := hM.le; omega
        simp [hel] at this ⊢
        exact this⟩
      rw [h0] at hj
      cases hj
    obtain ⟨hun, o, ho, _⟩ := mem_ready.1 hi
    have him : i < m := hT listed hc (unl_pos (by omega)) i hi
    have hil : i < listed.size := by have := hM.le; omega
    have hus := unl_set hil hun m
    rw [if_pos him] at hus
    have hag : ∀ d, d ∈ o.looksAt ops → look F d = look G d := fun d hd => (hG d fun i' o' hi' ho' hl' hn' he => (hM.deps i i' o o' d him hi' ho ho' he hd).elim (fun h => ready_edge hi h.1 hl') (fun h => hn' h.1)).symm
    by_cases hic : i ∈ cs0
    · have hics : i ∈ cs := (h2 i hic).resolve_right (by rw [hun]; simp)
      cases hk with
      | nil => cases hics
      | @cons j rest o' _ _ ho' R hs hl hk =>
        have e : j = i := by
          rcases List.mem_cons.1 hics with e | hr
          · exact e.symm
          · obtain ⟨x, hx, he⟩ := chE_mem hch hr
            exact (ready_edge hi he (h1 x hx)).elim
        subst e
        rw [ho] at ho'
        cases ho'
        refine wpOp_one ho (Q1 := fun _ a' w' => wpAny P .any ops (OnlyN Q) (fuel + (N - m)) (listed.setIfInBounds j true) a' w') (fun _ _ h => h) ((hs G _ hag fun r L' hR => Lx.nil ⟨fun H' w' a' hst' hF' => ?_⟩).out H w a hst hF)
        refine ih _ rest (putF o.dst r F) (putF o.dst r G) L' H' w' a' (by simpa using hsz) (hc.set hi) (by omega) (fun x hx => by rw [getD_set_ne false (by omega)]; exact h0' x hx) (fun x hx => ?_) (fun x hx => ?_) (fun x hx => h3 x (List.mem_cons_of_mem _ hx)) h4 (List.nodup_cons.1 hn).2 (chE_tl hch) (hk r L' hR) (hl r L' hR) (fun s hs' => ?_) (fun s hs' => ?_) hst' hF'
        · rw [getD_set_ne true (fun e => (List.nodup_cons.1 hn).1 (by rw [e]; exact hx))]
          exact h1 x (List.mem_cons_of_mem _ hx)
        · by_cases e : j = x
          · right
            subst e
            simp [hil]
          · rcases h2 x hx with h | h
            · rcases List.mem_cons.1 h with h | h
              · exact absurd h.symm e
              · exact .inl h
            · right
              rw [getD_set_ne true e]
              exact h
        · rw [put_ne (hs' j o hic ho (by simp [hil]))]
          exact hFf s fun i' o' hi' ho' hl' => hs' i' o' hi' ho' (by
            by_cases e : j = i'
            · subst e; simp [hil]
            · rw [getD_set_ne true e]; exact hl')
        · exact put_eq (hG s fun i' o' hi' ho' hl' hn' => hs' i' o' hi' ho' (by rw [getD_set_ne true (fun e => hn' (by rw [← e]; exact hic))]; exact hl') hn')
    · obtain ⟨r, hy, hd⟩ := hfl i o him ho hic
      have hy' : YieldsA P c n L ops o G r := (hy.sub hsub).congr fun d hd' => by
        rw [← hag d hd']
        exact (hFf d fun i' o' hi' ho' hl' he => (hM.deps i i' o o' d him (h4 _ hi') ho ho' he hd').elim (fun h => h.2 hic hi') (fun h => closed_edge hc hl' (by have := (Array.getElem?_eq_some_iff.1 ho').1; have := hM.size; omega) hil h.2 hun)).symm
      have hnext : ∀ H' w' v, H.le H' → St c H' w' L → Rel H' r v → wpAny P .any ops (OnlyN Q) (fuel + (N - m)) (listed.setIfInBounds i true) (a.put o.dst v) w' := fun H' w' v hle hs' hr => by
        refine ih _ cs F (putF o.dst r G) L H' w' _ (by simpa using hsz) (hc.set hi) (by omega) (fun x hx => by rw [getD_set_ne false (by omega)]; exact h0' x hx) (fun x hx => ?_) (fun x hx => ?_) h3 h4 hn hch hk hsub (fun s hs'' => hFf s fun i' o' hi' ho' hl' => hs'' i' o' hi' ho' (by rw [getD_set_ne true (fun e => hic (by rw [e]; exact hi'))]; exact hl')) (fun s hs'' => ?_) hs' ((hF.mono hle).put hr o.dst)
        · rw [getD_set_ne true (fun e => hic (by rw [e]; exact h3 x hx))]
          exact h1 x hx
        · rcases h2 x hx with h | h
          · exact .inl h
          · right
            rw [getD_set_ne true (fun e => hic (by rw [e]; exact hx))]
            exact h
        · by_cases e : o.dst = some s
          · rw [hFf s fun i' o' hi' ho' _ he => hic (by rw [← hM.dist i' i o' o s (h4 _ hi') him ho' ho e he]; exact hi'), hd s e, e]
            exact look_cons_self _ _ _
          · rw [put_ne e]
            refine hG s fun i' o' hi' ho' hl' hn' => ?_
            by_cases e' : i = i'
            · subst e'
              rw [ho] at ho'
              cases ho'
              exact e
            · exact hs'' i' o' hi' ho' (by rw [getD_set_ne true e']; exact hl') hn'
      unfold wpOp
      simp only [ho]
      rcases hy'.cases with ⟨_, hw, hg, hrr⟩ | ⟨hw, hrr⟩
      · rw [if_pos (wanted_fit hF.size hF.rel hw)]
        exact .inl (oper_wp_grows hst (hg.out H w a.eval hst (hF.reads _) o.dst o.pos o.after o.guard) fun H' w' v hl hs' hr => hnext H' w' v hl hs' (hrr _ _ hr))
      · rw [if_neg (by rw [wanted_fit hF.size hF.rel hw]; simp)]
        exact hnext H w undef (Cells.le_refl _) hst (hrr _)
theorem mixQ_of {m N : Nat} {cs : List Nat} (hs : ops.size = N) (hle : m ≤ N) (h : mixB ops m cs = true) : MixQ ops m N cs := by
  unfold mixB at h
  rw [List.all_eq_true] at h
  have key : ∀ (k i : Nat) (o o' : Oper) (d : Tmp), k < m → i < m → ops[k]? = some o → ops[i]? = some o' → o'.dst = some d → ((!(o.looksAt ops).contains d || (edgeB ops k i && (cs.contains k || !cs.contains i)) || (cs.contains i && edgeB ops i k)) && (!(o.dst == some d) || Nat.beq k i)) = true := fun k i o o' d hkm him hk hi hd => by
    have := h k (List.mem_range.2 hkm)
    simp only [hk, Bool.and_eq_true] at this
    have := List.all_eq_true.1 this.2 i (List.mem_range.2 him)
    simpa only [hi, Option.bind_some, hd] using this
  refine ⟨hs, hle, fun k o hkm hk e he hb => ?_, fun k i o o' d hkm him hk hi hd hm => ?_, fun k i o o' d hkm him hk hi hd he => ?_⟩
  · have := h k (List.mem_range.2 hkm)
    simp only [hk, Bool.and_eq_true] at this
    have := Array.all_eq_true_iff_forall_mem.1 this.1 e he
    simp only [hb, Bool.not_true, Bool.false_or] at this
    exact Nat.le_of_ble_eq_true this
  · have := key k i o o' d hkm him hk hi hd
    simp only [Bool.and_eq_true, Bool.or_eq_true, Bool.not_eq_true', List.contains_eq_mem, decide_eq_false_iff_not, decide_eq_true_eq] at this
    rcases this.1 with (h' | h') | h'
    · exact absurd hm h'
    · exact .inl ⟨h'.1, fun hn => h'.2.resolve_left hn⟩
    · exact .inr h'
  · have := key k i o o' d hkm him hk hi hd
    simp only [Bool.and_eq_true, Bool.or_eq_true, Bool.not_eq_true', he, beq_self_eq_true, Bool.true_eq_false, false_or] at this
    exact Nat.eq_of_beq_eq_true this.2
end
def anyMB (ops : Array Oper) (fs cs : List Nat) (p q : Nat) : Bool := Nat.ble p q && Nat.ble q ops.toList.length && (ops.toList.all fun o => noDef o.op) && mixB ops p cs && partB ops p fs cs && (Nat.beq p ops.toList.length || tailQ ops p ops.toList.length) && chainQ ops (lst q ops.toList.length) (q - p) p (lst p ops.toList.length) && closedB ops q && lexTo ops ops.toList.length (ops.toList.length - q) q (lst q ops.toList.length) && (Region.ready .any ops (lst ops.toList.length ops.toList.length)).isEmpty
/-- regions of open order: a mixture of free operations and a chain up to p, one after the other up to q, free from q on -/
theorem CK.anyM {P : Program} {T : Tr} [hT : TabOK P T] {c : Ctx} {m : Nat} {ro : Option Nat} {K : KT} {ds : List Deferred} {F : Fr} {L : List Ent} {id : Nat} {ops : Array Oper} (fs cs : List Nat) (p q : Nat) (L0 : List Ent) (hsub : L0.Sublist L) (hB : anyMB ops fs cs p q = true)
    (h : wpo P T c ⟨m, ds, ro⟩ ops L0 (fun F => Kx P c ⟨m, ds, ro⟩ ops L0 (fun F L => wpl P T c ⟨m, ds, ro⟩ ops (fun F L' => wpo P T c ⟨m, ds, ro⟩ ops L' (fun F => K ds .normal F L') (ops.toList.drop q) F) ((ops.toList.take q).drop p) F L) cs F L) (fs.map fun i => ops.toList.getD i default) F) : CK P T c m ro (.region id ops true) K ds F L := by
  simp only [anyMB, Bool.and_eq_true] at hB
  obtain ⟨⟨⟨⟨⟨⟨⟨⟨⟨h1, h2⟩, h3⟩, h4⟩, hC⟩, h5⟩, h6⟩, h7⟩, h8⟩, h9⟩ := hB
  have h1 := Nat.le_of_ble_eq_true h1
  have h2 := Nat.le_of_ble_eq_true h2
  generalize hN : ops.toList.length = N at *
  have hsz : ops.size = N := by rw [← hN]; simp
  have hM := mixQ_of hsz (by omega) h4
  simp only [partB, Bool.and_eq_true, List.all_eq_true, List.mem_range, Bool.or_eq_true, Bool.not_eq_true', List.contains_eq_mem, decide_eq_false_iff_not, decide_eq_true_eq] at hC
  obtain ⟨⟨⟨⟨⟨c1, c2⟩, c3⟩, c4⟩, c6⟩, c5⟩ := hC
  refine ⟨fun Q hQ => ⟨fun H w a hs hF _ => ?_⟩⟩
  have e : ops.toList.toArray = ops := Array.toArray_toList
  rw [← e]
  refine wpIn_of_any h3 hT.fol ?_
  rw [e]
  obtain ⟨Ff, h10, h11⟩ := wpo_out h
  have e0 : lst 0 N = Array.replicate N false := by simp [lst]
  have hget : ∀ i ∈ fs, ops[i]? = some (ops.toList.getD i default) := fun i hi => by
    have : i < ops.size := by have := Nat.le_of_ble_eq_true (c4 i hi).1; omega
    simp [this]
  obtain ⟨f1, f2⟩ := h10.full (by
      rw [List.pairwise_map]
      refine (List.Pairwise.and_mem.1 (ascB_pw c1)).imp ?_
      rintro i j ⟨hi, hj, hij⟩ d hd
      have hip := Nat.le_of_ble_eq_true (c4 i hi).1
      have hjp := Nat.le_of_ble_eq_true (c4 j hj).1
      refine ⟨fun hm => ?_, fun he => ?_⟩
      · have := ((hM.deps i j _ _ d hip hjp (hget i hi) (hget j hj) hd hm).resolve_right fun h => (c4 j hj).2 h.1).1
        obtain ⟨o, ho, e, e1, e2, e3⟩ := edgeB_spec this
        have := hM.back i o hip ho e e1 e2
        omega
      · have := hM.dist i j _ _ d hip hjp (hget i hi) (hget j hj) hd he
        omega) (fun o ho d hd hm => by
      obtain ⟨i, hi, rfl⟩ := List.mem_map.1 ho
      have hip := Nat.le_of_ble_eq_true (c4 i hi).1
      have := ((hM.deps i i _ _ d hip hip (hget i hi) (hget i hi) hd hm).resolve_right fun h => (c4 i hi).2 h.1).1
      obtain ⟨o, ho, e, e1, e2, e3⟩ := edgeB_spec this
      have := hM.back i o hip ho e e1 e2
      omega)
  have hfl : ∀ i o, i < p → ops[i]? = some o → i ∉ cs → i ∈ fs ∧ o = ops.toList.getD i default := fun i o him ho hn => by
    have hi := (c5 i him).resolve_left hn
    refine ⟨hi, ?_⟩
    rw [hget i hi] at ho
    exact (Option.some.inj ho).symm
  let Q' : Exit → Act → World → Prop := fun _ a w => ∃ H F L', St c H w L' ∧ Fit H ⟨m, ds, ro⟩ F a ∧ wpo P T c ⟨m, ds, ro⟩ ops L' (fun F => K ds .normal F L') (ops.toList.drop q) F
  have := wpAny_mixQ (P := P) (c := c) (n := ⟨m, ds, ro⟩) (Q := Q) (m := p) (N := N) (L0 := L0) (Ff := Ff) hM (fun listed hc hu j hj => by
      rcases Bool.or_eq_true _ _ ▸ h5 with he | ht
      · have := Nat.eq_of_beq_eq_true he
        obtain ⟨_, o', ho', _⟩ := mem_ready.1 hj
        rw [this, ← hsz]
        exact (Array.getElem?_eq_some_iff.1 ho').1
      · exact tailQ_spec hsz ht listed hc hu j hj)
    (fun F L H w a k hs hF => by
      have hw := ((wpl_out k).out Q' fun F L' hk => ⟨fun H w a hs hF => ⟨H, F, L', hs, hF, hk⟩⟩).out H w a hs hF
      have hlm : ((ops.toList.take q).drop p).length = q - p := by simp; omega
      have := wpAny_chainQ (P := P) (ops := ops) (stop := lst q N) (r := N - q) (Q := Q) (Q' := Q') (fun a w hq => by
        obtain ⟨H, F, L', hs, hF, hk⟩ := hq
        obtain ⟨F', h12, h13⟩ := wpo_out hk
        have hld : (ops.toList.drop q).length = N - q := by rw [List.length_drop, hN]
        have hA := wpAnyA_lex (P := P) (c := c) (n := ⟨m, ds, ro⟩) (L := L') (ops := ops) (p := N) (K := fun F => Lx P c ⟨m, ds, ro⟩ ops Q [] F L') (fun F G h k => ⟨fun H w a hs hF => k.out H w a hs (hF.weak fun s x hx => by rw [← h s]; exact hx)⟩) (ops.toList.drop q) q (lst q N) F F' (fun j hj => by simp) (by rw [hld]; exact h8) h12 (Lx.nil (hQ _ _ _ _ h13))
        rw [hld] at hA
        have := wpAny_of_A (P := P) (c := c) (n := ⟨m, ds, ro⟩) (L := L') (p := N) (m := N) (Q' := OnlyN Q) (K := fun F => Lx P c ⟨m, ds, ro⟩ ops Q [] F L') hsz (Nat.le_refl _) (fun listed hc hu j hj => by
            obtain ⟨_, o', ho', _⟩ := mem_ready.1 hj
            rw [← hsz]
            exact (Array.getElem?_eq_some_iff.1 ho').1)
          (fun F H w a k hs hF => by
            rw [Nat.sub_self]
            exact ⟨by simpa using h9, k.out H w a hs hF⟩) (N - q) (lst q N) F H w a (by simp [lst]; omega) (closed_lst hsz h2 h7) (unl_lst h2 N (Nat.le_refl _)) (fun i hi => by
            rw [Array.getD_eq_getD_getElem?, Array.getElem?_eq_none (by simp [lst]; omega)]
            rfl) hA hs hF
        rwa [Nat.sub_self, Nat.add_zero] at this) ((ops.toList.take q).drop p) p (lst p N) a w (fun j hj => by
          rw [hlm] at hj
          rw [List.getElem?_drop, List.getElem?_take, if_pos (by omega)]
          simp) (by rw [hlm]; exact h6) hw
      rwa [hlm, show q - p + (N - q) = N - p by omega] at this)
    (fun i o hip ho hn => by
      obtain ⟨hi, rfl⟩ := hfl i o hip ho hn
      exact f1 _ (List.mem_map.2 ⟨i, hi, rfl⟩)) p (lst 0 N) cs Ff F L H _ a (by simp [lst]) (fun k o ho hk => by
      have hkN : k < N := by rw [← hsz]; exact (Array.getElem?_eq_some_iff.1 ho).1
      rw [lst_get (Nat.zero_le _) _ hkN] at hk
      simp at hk) (by
      rw [unl_lst (Nat.zero_le _) p (by omega)]; omega) (fun i _ => by
      by_cases hi : i < N
      · rw [lst_get (Nat.zero_le _) _ hi]; simp
      · rw [Array.getD_eq_getD_getElem?, Array.getElem?_eq_none (by simp [lst]; omega)]
        rfl)
    (fun i hi => by
      have him : i < N := by have := Nat.le_of_ble_eq_true (c6 i hi); omega
      rw [lst_get (Nat.zero_le _) _ him]; simp) (fun i hi => .inl hi) (fun i hi => hi) (fun i hi => Nat.le_of_ble_eq_true (c6 i hi)) ((ascB_pw c2).imp fun h => Nat.ne_of_lt h) c3 h11 hsub (fun s _ => rfl) (fun s hs' => by
      refine (f2 s fun o ho he => ?_).symm
      obtain ⟨i, hi, rfl⟩ := List.mem_map.1 ho
      have hip := Nat.le_of_ble_eq_true (c4 i hi).1
      exact hs' i _ hip (hget i hi) (by rw [lst_get (Nat.zero_le _) _ (by omega)]; simp) (c4 i hi).2 he) hs.drew hF
  rw [show p + (N - p) = N by omega, e0] at this
  rw [hsz]
  exact this
end Go.E2
namespace Go.E2
open Go.RowKit
section
variable {P : Program} {T : Tr} {c : Ctx} {n : Cfg} {ops : Array Oper} {F : Fr} {L : List Ent} {ty : TypeId} {d : Option Tmp} {pos : String} {aft : Array Edge}
end
end Go.E2
namespace Go.E2
open Go.RowKit
section
variable {P : Program} {c : Ctx} {n : Cfg} {Q : Exit → Act → World → Prop} {F G : Fr} {L L0 : List Ent} {ops : Array Oper}
theorem wpAny_mixV {m : Nat} {K : Fr → List Ent → Prop} {cs0 : List Nat} {Ff : Fr} (hM : Mix ops m cs0) {W : List Nat → List Ent → Prop} {s0 : Nat} (hs0 : s0 ∈ cs0) (hs1 : ∀ i o, ops[i]? = some o → i ∉ cs0 → edgeB ops s0 i = true)
    (hK : ∀ F L H w a, K F L → St c H w L → Fit H n F a → wpList P ops (OnlyN Q) [] a w)
    (hfl : ∀ rest L i o, W rest L → rest ≠ [] → ops[i]? = some o → i ∉ cs0 → (∀ s, s ∈ cs0 → s ∉ rest → edgeB ops s i = false) → ∃ r, YieldsA P c n L ops o Ff r ∧ ∀ d, o.dst = some d → look Ff d = some r) :
    ∀ (fuel : Nat) (listed : Array Bool) (cs : List Nat) (F G : Fr) (L : List Ent) (H : Cells) (w : World) (a : Act), listed.size = m → Closed ops listed → unl m listed = fuel →
      (∀ i ∈ cs, listed.getD i true = false) → (∀ i ∈ cs0, i ∈ cs ∨ listed.getD i true = true) → (∀ i ∈ cs, i ∈ cs0) → cs.Nodup → chE ops cs = true → Kw P c n ops W K cs F L →
      (∀ s, (∀ i o, i ∈ cs0 → ops[i]? = some o → listed.getD i true = true → o.dst ≠ some s) → look F s = look Ff s) →
      (∀ s, (∀ i o, ops[i]? = some o → listed.getD i true = false → i ∉ cs0 → o.dst ≠ some s) → look G s = look F s) →
      St c H w L → Fit H n G a → wpAny P .any ops (OnlyN Q) fuel listed a w := by
  intro fuel
  induction fuel with
  | zero =>
    intro listed cs F G L H w a hsz hc hu h1 h2 h3 hn hch hk hFf hG hst hF
    have hz := unl_zero hu
    have hlt : ∀ {i : Nat} {o : Oper}, ops[i]? = some o → i < m := fun ho => by rw [← hM.size]; exact (Array.getElem?_eq_some_iff.1 ho).1
    cases hk with
    | cons ho R hs hw hk =>
      have := hz _ (hlt ho)
      rw [h1 _ (by simp)] at this
      cases this
    | nil hk =>
      refine ⟨?_, hK F L H w a hk hst (hF.weak fun s x hx => ?_)⟩
      · rw [List.eq_nil_iff_forall_not_mem]
        intro i hi
        obtain ⟨g1, o, ho, _⟩ := mem_ready.1 hi
        rw [hz i (hlt ho)] at g1
        cases g1
      · rw [hG s fun i o ho hl _ => by rw [hz i (hlt ho)] at hl; cases hl]
        exact hx
  | succ fuel ih =>
    intro listed cs F G L H w a hsz hc hu h1 h2 h3 hn hch hk hFf hG hst hF
    refine ⟨fun h0 => ?_, fun i hi => ?_⟩
    · exfalso
      obtain ⟨i, hi, hl⟩ := unl_pos (k := m) (listed := listed) (by omega)
      obtain ⟨j, g1, g2, g3⟩ := min_unl i hl
      have hjm : j < ops.size := by have := hM.size; omega
      have hj : j ∈ Region.ready .any ops listed := mem_ready.2 ⟨g2, ops[j], Array.getElem?_eq_getElem hjm, fun e he hb => by
        have hlt := hM.back j _ (Array.getElem?_eq_getElem hjm) e he hb
        have := g3 e.on hlt
        have hel : e.on < listed.size := by omega
        simp [hel] at this ⊢
        exact this⟩
      rw [h0] at hj
      cases hj
    obtain ⟨hun, o, ho, _⟩ := mem_ready.1 hi
    have him : i < m := by rw [← hM.size]; exact (Array.getElem?_eq_some_iff.1 ho).1
    have hil : i < listed.size := by omega
    have hus := unl_set hil hun m
    rw [if_pos him] at hus
    have hag : ∀ d, d ∈ o.looksAt ops → look F d = look G d := fun d hd => (hG d fun i' o' ho' hl' hn' he => (hM.deps i i' o o' d ho ho' he hd).elim (fun h => ready_edge hi h.1 hl') (fun h => hn' h.1)).symm
    by_cases hic : i ∈ cs0
    · have hics : i ∈ cs := (h2 i hic).resolve_right (by rw [hun]; simp)
      cases hk with
      | nil => cases hics
      | @cons j rest o' _ _ ho' R hs hw hk =>
        have e : j = i := by
          rcases List.mem_cons.1 hics with e | hr
          · exact e.symm
          · obtain ⟨x, hx, he⟩ := chE_mem hch hr
            exact (ready_edge hi he (h1 x hx)).elim
        subst e
        rw [ho] at ho'
        cases ho'
        refine wpOp_one ho (Q1 := fun _ a' w' => wpAny P .any ops (OnlyN Q) fuel (listed.setIfInBounds j true) a' w') (fun _ _ h => h) ((hs.out G _ hag fun r L' hR => Lx.nil ⟨fun H' w' a' hst' hF' => ?_⟩).out H w a hst hF)
        refine ih _ rest (putF o.dst r F) (putF o.dst r G) L' H' w' a' (by simpa using hsz) (hc.set hi) (by omega) (fun x hx => ?_) (fun x hx => ?_) (fun x hx => h3 x (List.mem_cons_of_mem _ hx)) (List.nodup_cons.1 hn).2 (chE_tl hch) (hk r L' hR) (fun s hs' => ?_) (fun s hs' => ?_) hst' hF'
        · rw [getD_set_ne true (fun e => (List.nodup_cons.1 hn).1 (by rw [e]; exact hx))]
          exact h1 x (List.mem_cons_of_mem _ hx)
        · by_cases e : j = x
          · right
            subst e
            simp [hil]
          · rcases h2 x hx with h | h
            · rcases List.mem_cons.1 h with h | h
              · exact absurd h.symm e
              · exact .inl h
            · right
              rw [getD_set_ne true e]
              exact h
        · rw [put_ne (hs' j o hic ho (by simp [hil]))]
          exact hFf s fun i' o' hi' ho' hl' => hs' i' o' hi' ho' (by
            by_cases e : j = i'
            · subst e; simp [hil]
            · rw [getD_set_ne true e]; exact hl')
        · exact put_eq (hG s fun i' o' ho' hl' hn' => hs' i' o' ho' (by rw [getD_set_ne true (fun e => hn' (by rw [← e]; exact hic))]; exact hl') hn')
    · have hcne : cs ≠ [] := fun e => by
        rcases h2 s0 hs0 with h | h
        · rw [e] at h; cases h
        · exact closed_edge hc h (by
            rcases Nat.lt_or_ge s0 listed.size with hlt | hge
            · exact hlt
            · obtain ⟨o', ho', _⟩ := edgeB_spec (hs1 i o ho hic)
              have h9 := (Array.getElem?_eq_some_iff.1 ho').1
              have := hM.size
              omega) hil (hs1 i o ho hic) hun
      have hWL : W cs L := by cases hk with | nil => exact absurd rfl hcne | cons ho R hs hw hk => exact hw
      obtain ⟨r, hy, hd⟩ := hfl cs L i o hWL hcne ho hic fun s hs1' hs2 => Bool.eq_false_iff.2 fun he => closed_edge hc ((h2 s hs1').resolve_left hs2) (by
        rcases Nat.lt_or_ge s listed.size with hlt | hge
        · exact hlt
        · obtain ⟨o', ho', _⟩ := edgeB_spec he
          have h9 := (Array.getElem?_eq_some_iff.1 ho').1
          have := hM.size
          omega) hil he hun
      have hy' : YieldsA P c n L ops o G r := hy.congr fun d hd' => by
        rw [← hag d hd']
        exact (hFf d fun i' o' hi' ho' hl' he => (hM.deps i i' o o' d ho ho' he hd').elim (fun h => h.2 hic hi') (fun h => closed_edge hc hl' (by have := (Array.getElem?_eq_some_iff.1 ho').1; have := hM.size; omega) hil h.2 hun)).symm
      have hnext : ∀ H' w' v, H.le H' → St c H' w' L → Rel H' r v → wpAny P .any ops (OnlyN Q) fuel (listed.setIfInBounds i true) (a.put o.dst v) w' := fun H' w' v hle hs' hr => by
        refine ih _ cs F (putF o.dst r G) L H' w' _ (by simpa using hsz) (hc.set hi) (by omega) (fun x hx => ?_) (fun x hx => ?_) h3 hn hch hk (fun s hs'' => hFf s fun i' o' hi' ho' hl' => hs'' i' o' hi' ho' (by rw [getD_set_ne true (fun e => hic (by rw [e]; exact hi'))]; exact hl')) (fun s hs'' => ?_) hs' ((hF.mono hle).put hr o.dst)
        · rw [getD_set_ne true (fun e => hic (by rw [e]; exact h3 x hx))]
          exact h1 x hx
        · rcases h2 x hx with h | h
          · exact .inl h
          · right
            rw [getD_set_ne true (fun e => hic (by rw [e]; exact hx))]
            exact h
        · by_cases e : o.dst = some s
          · rw [hFf s fun i' o' hi' ho' _ he => hic (by rw [← hM.dist i' i o' o s ho' ho e he]; exact hi'), hd s e, e]
            exact look_cons_self _ _ _
          · rw [put_ne e]
            refine hG s fun i' o' ho' hl' hn' => ?_
            by_cases e' : i = i'
            · subst e'
              rw [ho] at ho'
              cases ho'
              exact e
            · exact hs'' i' o' ho' (by rw [getD_set_ne true e']; exact hl') hn'
      unfold wpOp
      simp only [ho]
      rcases hy'.cases with ⟨_, hw, hg, hrr⟩ | ⟨hw, hrr⟩
      · rw [if_pos (wanted_fit hF.size hF.rel hw)]
        exact .inl (oper_wp_grows hst (hg.out H w a.eval hst (hF.reads _) o.dst o.pos o.after o.guard) fun H' w' v hl hs' hr => hnext H' w' v hl hs' (hrr _ _ hr))
      · rw [if_neg (by rw [wanted_fit hF.size hF.rel hw]; simp)]
        exact hnext H w undef (Cells.le_refl _) hst (hrr _)
theorem Cx.anyV {id : Nat} {l : List Oper} {m : Nat} (fs cs : List Nat) {W : List Nat → List Ent → Prop} (s0 : Nat) (hs0 : s0 ∈ cs) (hs1 : fs.all (fun i => edgeB l.toArray s0 i) = true) {Ff : Fr} (hm : P.follows .mixedOrders = true) (hl : l.length = m) (hd : l.all (fun o => noDef o.op) = true)
    (hB : mixB l.toArray m cs = true) (hC : partB l.toArray m fs cs = true)
    (lt : List Nat) (s1 : Nat) (hs1c : s1 ∈ cs) (hlt : fs.all (fun i => lt.contains i || edgeB l.toArray s1 i) = true)
    (h : ∀ rest L', W rest L' → s1 ∈ rest → RunA P c n L' l.toArray (fs.map fun i => l.getD i default) F Ff)
    (hla : ∀ rest L', W rest L' → rest ≠ [] → s1 ∉ rest → ∀ i ∈ lt, ∃ r, YieldsA P c n L' l.toArray (l.getD i default) Ff r ∧ ∀ d, (l.getD i default).dst = some d → look Ff d = some r) (h2 : Kw P c n l.toArray W (fun F L' => Lx P c n l.toArray Q [] F L') cs Ff L) : Cx P c n (.region id l.toArray true) Q F L :=
  ⟨fun H w a hs hF _ => by
    have hsz : l.toArray.size = m := by simpa using hl
    have hM := mix_of hsz hB
    simp only [partB, Bool.and_eq_true, List.all_eq_true, List.mem_range, Bool.or_eq_true, Bool.not_eq_true', List.contains_eq_mem, decide_eq_false_iff_not, decide_eq_true_eq] at hC
    obtain ⟨⟨⟨⟨⟨c1, c2⟩, c3⟩, c4⟩, c6⟩, c5⟩ := hC
    refine wpIn_of_any hd hm ?_
    have hget : ∀ i ∈ fs, l.toArray[i]? = some (l.getD i default) := fun i hi => by
      have : i < l.length := by rw [hl]; exact Nat.le_of_ble_eq_true (c4 i hi).1
      simp [this]
    have fall := fun L' (h1 : RunA P c n L' l.toArray (fs.map fun i => l.getD i default) F Ff) => h1.full (by
        rw [List.pairwise_map]
        refine (List.Pairwise.and_mem.1 (ascB_pw c1)).imp ?_
        rintro i j ⟨hi, hj, hij⟩ d hd
        refine ⟨fun hm => ?_, fun he => ?_⟩
        · have := ((hM.deps i j _ _ d (hget i hi) (hget j hj) hd hm).resolve_right fun h => (c4 j hj).2 h.1).1
          obtain ⟨o, ho, e, e1, e2, e3⟩ := edgeB_spec this
          have := hM.back i o ho e e1 e2
          omega
        · have := hM.dist i j _ _ d (hget i hi) (hget j hj) hd he
          omega) (fun o ho d hd hm => by
        obtain ⟨i, hi, rfl⟩ := List.mem_map.1 ho
        have := ((hM.deps i i _ _ d (hget i hi) (hget i hi) hd hm).resolve_right fun h => (c4 i hi).2 h.1).1
        obtain ⟨o, ho, e, e1, e2, e3⟩ := edgeB_spec this
        have := hM.back i o ho e e1 e2
        omega)
    have hfl : ∀ i o, l.toArray[i]? = some o → i ∉ cs → i ∈ fs ∧ o = l.getD i default := fun i o ho hn => by
      have him : i < m := by rw [← hsz]; exact (Array.getElem?_eq_some_iff.1 ho).1
      have hi := (c5 i him).resolve_left hn
      refine ⟨hi, ?_⟩
      rw [hget i hi] at ho
      exact (Option.some.inj ho).symm
    have hun : ∀ k, k ≤ m → unl k (Array.replicate m false) = k := by
      intro k
      induction k with
      | zero => intro _; rfl
      | succ k ih =>
        intro hk
        have h3 := ih (by omega)
        simp only [unl, h3]
        rw [if_pos (by simp [show k < m by omega])]
    have hne0 : cs ≠ [] := fun e => by rw [e] at hs0; cases hs0
    have hW0 : W cs L := by cases h2 with | nil => exact absurd rfl hne0 | cons _ _ _ hw _ => exact hw
    rw [hsz]
    have := wpAny_mixV (P := P) (Q := Q) (K := fun F L' => Lx P c n l.toArray Q [] F L') (Ff := Ff) hM hs0 (fun i o ho hn => List.all_eq_true.1 hs1 i (hfl i o ho hn).1) (fun F L H w a k hst hF => k.out H w a hst hF)
      (fun rest L' i o hW hne ho hn hfr => by
        obtain ⟨hi, rfl⟩ := hfl i o ho hn
        by_cases hr : s1 ∈ rest
        · exact (fall L' (h rest L' hW hr)).1 _ (List.mem_map.2 ⟨i, hi, rfl⟩)
        · have h9 := List.all_eq_true.1 hlt i hi
          rw [hfr s1 hs1c hr, Bool.or_false, List.contains_iff_mem] at h9
          exact hla rest L' hW hne hr i h9) m (Array.replicate m false) cs Ff F L H _ a (by simp) (fun k o ho hk => by simp [Array.getElem?_replicate] at hk; split at hk <;> simp_all) (hun m (Nat.le_refl _))
      (fun i hi => by
        have him : i < m := Nat.le_of_ble_eq_true (c6 i hi)
        simp [him]) (fun i hi => .inl hi) (fun i hi => hi) ((ascB_pw c2).imp fun h => Nat.ne_of_lt h) c3 h2 (fun s _ => rfl) (fun s hs' => by
          refine ((fall L (h cs L hW0 hs1c)).2 s fun o ho he => ?_).symm
          obtain ⟨i, hi, rfl⟩ := List.mem_map.1 ho
          have him : i < m := Nat.le_of_ble_eq_true (c4 i hi).1
          exact hs' i _ (hget i hi) (by simp [him]) (c4 i hi).2 he) hs.drew hF
    exact this⟩
/-- free operations before the operation s1 of the chain, but for those of lt, which yield the same afterwards -/
theorem CK.anyV {T : Tr} [hT : TabOK P T] {m : Nat} {ro : Option Nat} {K : KT} {ds : List Deferred} {id : Nat} {ops : Array Oper} (fs cs lt : List Nat) (W : List Nat → List Ent → Prop) (s0 s1 : Nat) (hq : (cs.contains s0 && cs.contains s1 && fs.all (fun i => edgeB ops s0 i) && fs.all (fun i => lt.contains i || edgeB ops s1 i)) = true) (hB : anyKB ops fs cs = true) (Ff : Fr)
    (h : ∀ rest L', W rest L' → s1 ∈ rest → RunA P c ⟨m, ds, ro⟩ L' ops (fs.map fun i => ops.toList.getD i default) F Ff)
    (hla : ∀ rest L', W rest L' → rest ≠ [] → s1 ∉ rest → ∀ i ∈ lt, ∃ r, YieldsA P c ⟨m, ds, ro⟩ L' ops (ops.toList.getD i default) Ff r ∧ ∀ d, (ops.toList.getD i default).dst = some d → look Ff d = some r)
    (hk : Kw P c ⟨m, ds, ro⟩ ops W (fun F L => K ds .normal F L) cs Ff L) : CK P T c m ro (.region id ops true) K ds F L := by
  simp only [anyKB, Bool.and_eq_true] at hB
  simp only [Bool.and_eq_true, List.contains_iff_mem] at hq
  obtain ⟨⟨⟨q1, q2⟩, q3⟩, q4⟩ := hq
  obtain ⟨⟨h1, h2⟩, h3⟩ := hB
  refine ⟨fun Q hQ => ?_⟩
  have e : ops.toList.toArray = ops := Array.toArray_toList
  have mono : ∀ {cs : List Nat} {F : Fr} {L : List Ent}, Kw P c ⟨m, ds, ro⟩ ops W (fun F L => K ds .normal F L) cs F L → Kw P c ⟨m, ds, ro⟩ ops W (fun F L' => Lx P c ⟨m, ds, ro⟩ ops Q [] F L') cs F L := fun hk => by
    induction hk with
    | nil h => exact .nil (Lx.nil (hQ _ _ _ _ h))
    | cons ho R hs hw hk ih => exact .cons ho R hs hw ih
  have := Cx.anyV (P := P) (c := c) (n := ⟨m, ds, ro⟩) (Q := Q) (F := F) (L := L) (id := id) (l := ops.toList) fs cs (W := W) s0 q1 (by rw [e]; exact q3) (Ff := Ff) hT.fol rfl h1 (by rw [e]; exact h2) (by rw [e]; exact h3) lt s1 q2 (by rw [e]; simpa using q4) (by rw [e]; exact h) (by rw [e]; exact hla) (by rw [e]; exact mono hk)
  rwa [e] at this
theorem Kw.stp {T : Tr} [TabOK P T] {W : List Nat → List Ent → Prop} {K : Fr → List Ent → Prop} {i : Nat} {is : List Nat} {d : Option Tmp} {o : Op} {ty : TypeId} {pos : String} {aft : Array Edge} (ho : ops[i]? = some ⟨d, o, ty, pos, aft, none⟩) (hw : W (i :: is) L) (h : E2.gr P T c n true F L ty o fun r => putK d r F fun F => Kw P c n ops W K is F L) : Kw P c n ops W K (i :: is) F L := by
  obtain ⟨r, h1, h2⟩ := gr_out h
  exact .cons ho (fun r' L' => r' = r ∧ L' = L) ⟨fun _ _ hag hk => Lx.gr rfl ((h1 rfl).congr fun _ hm => look_op hag hm) (hk r L ⟨rfl, rfl⟩)⟩ hw fun _ _ e => by
    obtain ⟨rfl, rfl⟩ := e
    exact putK_out h2
theorem Kw.eff {W : List Nat → List Ent → Prop} {K : Fr → List Ent → Prop} {i : Nat} {is : List Nat} {d : Option Tmp} {o : Op} {ty : TypeId} {pos : String} {aft : Array Edge} {R : AV → List Ent → Prop} (ho : ops[i]? = some ⟨d, o, ty, pos, aft, none⟩) (h : Eff P c n ops ⟨d, o, ty, pos, aft, none⟩ F L R) (hw : W (i :: is) L) (k : ∀ r L', R r L' → putK d r F fun F => Kw P c n ops W K is F L') : Kw P c n ops W K (i :: is) F L :=
  .cons ho R h hw fun r L' hR => putK_out (k r L' hR)
theorem Kw.gr {W : List Nat → List Ent → Prop} {K : Fr → List Ent → Prop} {i : Nat} {is : List Nat} {d : Option Tmp} {o : Op} {ty : TypeId} {pos : String} {aft : Array Edge} {r : AV} (ho : ops[i]? = some ⟨d, o, ty, pos, aft, none⟩) (hw : W (i :: is) L) (h : Gr P c n o ty F L r) (k : putK d r F fun F => Kw P c n ops W K is F L) : Kw P c n ops W K (i :: is) F L :=
  .cons ho (fun r' L' => r' = r ∧ L' = L) ⟨fun _ _ hag hk => Lx.gr rfl (h.congr fun _ hm => look_op hag hm) (hk r L ⟨rfl, rfl⟩)⟩ hw fun _ _ e => by
    obtain ⟨rfl, rfl⟩ := e
    exact putK_out k
end
end Go.E2
