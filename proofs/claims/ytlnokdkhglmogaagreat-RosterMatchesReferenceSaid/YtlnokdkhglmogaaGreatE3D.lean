/-
  The engine, second make, part D: operations that turn the local heap; calls; results.
  Conditions: none beyond the premises of each rule.
-/
import Derived.Test.YtlnokdkhglmogaaGreatE3C
namespace Go.E2
open Go.RowKit
section
variable {P : Program} {c : Ctx} {n : Cfg} {Q : Exit → Act → World → Prop} {F : Fr} {L : List Ent} {ops : Array Oper} {ty : TypeId}
variable {d : Option Tmp} {o : Op} {pos : String} {aft : Array Edge} {gd : Option (Nat × Bool)} {rest : List Oper} {H : Cells} {w : World}
theorem Lx.op (hg : wantB ops n F gd = some true)
    (h : ∀ H w a, St c H w L → Fit H n F a → ∃ nx w' v r H' L', (execOp a.eval ⟨d, o, ty, pos, aft, gd⟩).run P w = .ok nx w' ∧ ((nx = .value v) ∨ (nx = .skip ∧ v = undef)) ∧ H.le H' ∧ St c H' w' L' ∧ Rel H' r v ∧ Lx P c n ops Q rest (putF d r F) L') :
    Lx P c n ops Q (⟨d, o, ty, pos, aft, gd⟩ :: rest) F L :=
  ⟨fun H w a hs hF => by
    refine wpList_step fun K hK => ?_
    rw [if_pos (wanted_fit (o := ⟨d, o, ty, pos, aft, gd⟩) hF.size hF.rel hg)]
    obtain ⟨nx, w', v, r, H', L', hr, hn, hl, hs', hrel, hk⟩ := h H w a hs hF
    unfold Oper.wp
    rw [hr]
    rcases hn with rfl | ⟨rfl, rfl⟩
    · simp only [Oper.upon]; exact hK _ _ (hk.out H' w' _ hs' ((hF.mono hl).put hrel d))
    · simp only [Oper.upon]; exact hK _ _ (hk.out H' w' _ hs' ((hF.mono hl).put hrel d))⟩
theorem Lx.boxOf {t : TypeId} {x : Operand} {a : AV} {cs : List AV} (hg : wantB ops n F gd = some true) (hx : oget n F x = some a) (hok : a.ok = true) (hcs : a.cells = cs)
    (k : ∀ b, Lx P c n ops Q rest (putF d (.v (.pointer (some ⟨b, 0, none⟩))) F) (.blk b t false cs :: L)) : Lx P c n ops Q (⟨d, .box t x, ty, pos, aft, gd⟩ :: rest) F L :=
  Lx.op hg fun H w ac hs hF => by
    have hr := hF.eval hx
    have hc := hr.cells hok
    rw [hcs] at hc
    refine ⟨_, w.alloc (.cells (ac.eval x).cells.toList.toArray t), _, _, H, _, ?_, .inl rfl, Cells.le_refl _, hs.trans (St.new hs.hin t hc), .v _, k _⟩
    simp [execOp, Instr.box, newVar, newRow]
theorem Lx.boxA {t : TypeId} {x : Operand} {cs : List AV} (hg : wantB ops n F gd = some true) (hx : oget n F x = some (.agg cs))
    (k : ∀ b, Lx P c n ops Q rest (putF d (.v (.pointer (some ⟨b, 0, none⟩))) F) (.blk b t false cs :: L)) : Lx P c n ops Q (⟨d, .box t x, ty, pos, aft, gd⟩ :: rest) F L := Lx.boxOf hg hx rfl rfl k
theorem Lx.box1 {t : TypeId} {x : Operand} {a : AV} (hg : wantB ops n F gd = some true) (hx : oget n F x = some a) (h1 : a.one = true)
    (k : ∀ b, Lx P c n ops Q rest (putF d (.v (.pointer (some ⟨b, 0, none⟩))) F) (.blk b t false [a] :: L)) : Lx P c n ops Q (⟨d, .box t x, ty, pos, aft, gd⟩ :: rest) F L :=
  Lx.boxOf hg hx (by cases a <;> first | rfl | (cases h1; done) | (rename_i x; cases x <;> first | rfl | (cases h1; done))) (by cases a <;> first | rfl | (cases h1; done)) k
structure ZeroA (P : Program) (t : TypeId) (cs : List AV) : Prop where
  out : ∃ z, (P.info? t).bind (·.zero) = some z ∧ z.cells.toList.map AV.v = cs
theorem relL_v (H : Cells) : ∀ l : List Value, RelL H (l.map .v) l
  | [] => .nil
  | a :: l => .cons (.v a) (relL_v H l)
theorem Lx.alloc {t : TypeId} {cs : List AV} (hz : ZeroA P t cs) (hg : wantB ops n F gd = some true)
    (k : ∀ b, Lx P c n ops Q rest (putF d (.v (.pointer (some ⟨b, 0, none⟩))) F) (.blk b t false cs :: L)) : Lx P c n ops Q (⟨d, .alloc t, ty, pos, aft, gd⟩ :: rest) F L :=
  Lx.op hg fun H w a hs hF => by
    obtain ⟨z, h1, h2⟩ := hz.out
    refine ⟨_, w.alloc (.cells z.cells.toList.toArray t), _, _, H, _, ?_, .inl rfl, Cells.le_refl _, hs.trans (St.new hs.hin t (by rw [← h2]; exact relL_v H _)), .v _, k _⟩
    cases hi : P.info? t with
    | none => rw [hi] at h1; cases h1
    | some i =>
      rw [hi] at h1
      simp only [Option.bind_some] at h1
      simp [execOp, Instr.alloc, zeroValue, typeInfo, hi, h1, newVar, newRow]

/-! stores into a block -/
theorem St.setRow {i g : Nat} {T : TypeId} {cs cs' : List AV} {us' : List Value} (h : St c H w L) (hL : L[i]? = some (.blk g T false cs)) (hr : RelL H cs' us') : St c H (w.setRow g us'.toArray) (L.set i (.blk g T false cs')) := by
  obtain ⟨h1, us, h2, h3, h4, h5⟩ := h.holds _ (List.mem_of_getElem? hL)
  have hother : ∀ k, k ≠ g → (w.setRow g us'.toArray).heap[k]? = w.heap[k]? := fun k hk => by
    simp only [World.setRow, Array.getElem?_modify]
    rw [if_neg (by omega)]
  refine h.turn hL (hin_heap h.hin fun b o u hu => hother b (fun e => by subst e; rw [h4 rfl o] at hu; cases hu)) ⟨h1, us', setRow_heap w g _ _ T _ h2, hr, h4, fun h => by cases h⟩ ⟨rfl, rfl, rfl, by simp [World.setRow], fun k _ hk => hother k (fun e => hk (by rw [e]; rfl))⟩ (.inl rfl) (Nat.le_refl _)
theorem Lx.st1 {t T : TypeId} {x y : Operand} {g off : Nat} {cs : List AV} {r : AV} (ht : OneT P t) (hg : wantB ops n F gd = some true) (hx : oget n F x = some (.v (.pointer (some ⟨g, off, none⟩)))) (hy : oget n F y = some r) (i : Nat)
    (hL : L[i]? = some (.blk g T false cs)) (ho : Nat.blt off cs.length = true) (hu : r.one = true) (k : Lx P c n ops Q rest (putF d (.v undef) F) (L.set i (.blk g T false (cs.set off r)))) :
    Lx P c n ops Q (⟨d, .store t x y, ty, pos, aft, gd⟩ :: rest) F L :=
  Lx.op hg fun H w a hs hF => by
    obtain ⟨us, hb, hrel⟩ := blk_at hs hL
    have hyv := hF.eval hy
    obtain ⟨o1, o2, _⟩ := hyv.one hu
    have ho' : off < us.length := by rw [← hrel.len]; simpa [Nat.blt_eq] using ho
    have hcell : w.cell? ⟨g, off, none⟩ = some us[off] := by simp [World.cell?, hb, ho']
    have hfro : w.frozen? ⟨g, off, none⟩ = false := by simp [World.frozen?, hb]
    refine ⟨.skip, w.setCell ⟨g, off, none⟩ (a.eval y), undef, _, H, _, ?_, .inr ⟨rfl, rfl⟩, Cells.le_refl _, ?_, .v _, k⟩
    · simp [execOp, (hF.eval hx).inv, Instr.storeAt, Instr.sureAddr, storeVar, run_sizeOf' ht.size, o2, storeCells, Addr.add, run_store P w _ (a.eval y) _ o1, hcell, hfro]
    · rw [setCell_eq_setRow w g off _ T (0, 0) (a.eval y) hb]
      have := hs.setRow (cs' := cs.set off r) (us' := us.set off (a.eval y)) hL (hrel.set hyv off)
      simpa using this
/-- a struct stored over some cells of a block -/
theorem Lx.stA {t T : TypeId} {kk : Nat} {x y : Operand} {g off : Nat} {cs vs : List AV} (ht : AggT P t kk) (hg : wantB ops n F gd = some true) (hx : oget n F x = some (.v (.pointer (some ⟨g, off, none⟩)))) (hy : oget n F y = some (.agg vs)) (i : Nat)
    (hL : L[i]? = some (.blk g T false cs)) (hl : Nat.beq vs.length kk = true) (hl' : Nat.ble (off + kk) cs.length = true) (hu : vs.all AV.one = true) (k : Lx P c n ops Q rest (putF d (.v undef) F) (L.set i (.blk g T false (cs.take off ++ vs ++ cs.drop (off + kk))))) :
    Lx P c n ops Q (⟨d, .store t x y, ty, pos, aft, gd⟩ :: rest) F L :=
  Lx.op hg fun H w a hs hF => by
    obtain ⟨us, hb, hrel⟩ := blk_at hs hL
    obtain ⟨vv, e, hv⟩ := (hF.eval hy).inv_agg
    have h1 : vv.length = kk := by rw [← hv.len]; exact Nat.eq_of_beq_eq_true hl
    have h2 : off + kk ≤ us.length := by rw [← hrel.len]; exact Nat.le_of_ble_eq_true hl'
    have hst := run_storeCells_at (P := P) g off T vv 0 us.toArray w hb (by simp; omega) (fun v hm => hv.oneAll hu v hm)
    have e2 : (us.toArray.toList.take (off + 0) ++ vv ++ us.toArray.toList.drop (off + 0 + vv.length)) = us.take off ++ vv ++ us.drop (off + kk) := by simp [h1]
    rw [e2] at hst
    refine ⟨.skip, w.setRow g (us.take off ++ vv ++ us.drop (off + kk)).toArray, undef, _, H, _, ?_, .inr ⟨rfl, rfl⟩, Cells.le_refl _, hs.setRow hL (((hrel.take off).append hv).append (hrel.drop (off + kk))), .v _, k⟩
    simp [execOp, (hF.eval hx).inv, e, Instr.storeAt, Instr.sureAddr, storeVar, run_sizeOf' ht.size, Value.cells, h1] at hst ⊢
    simp [hst]
/-- a struct stored over a whole block -/
theorem Lx.stW {t T : TypeId} {kk : Nat} {x y : Operand} {g : Nat} {cs vs : List AV} (ht : AggT P t kk) (hg : wantB ops n F gd = some true) (hx : oget n F x = some (.v (.pointer (some ⟨g, 0, none⟩)))) (hy : oget n F y = some (.agg vs)) (i : Nat)
    (hL : L[i]? = some (.blk g T false cs)) (hl : Nat.beq vs.length kk = true) (hl' : Nat.beq cs.length kk = true) (hu : vs.all AV.one = true) (k : Lx P c n ops Q rest (putF d (.v undef) F) (L.set i (.blk g T false vs))) :
    Lx P c n ops Q (⟨d, .store t x y, ty, pos, aft, gd⟩ :: rest) F L :=
  Lx.stA ht hg hx hy i hL hl (by have := Nat.eq_of_beq_eq_true hl'; rw [this]; simp) hu (by
    have := Nat.eq_of_beq_eq_true hl'
    have e : cs.take 0 ++ vs ++ cs.drop (0 + kk) = vs := by simp [List.drop_eq_nil_of_le (show cs.length ≤ kk by omega)]
    rw [e]; exact k)

/-! calls -/
theorem run_call {f : FuncId} {x : Operand} {first cap : Array Value} {xs : List Operand} {ts : Array TypeId} {ρ : Operand → Value} (hf : EntersT P f) (hx : ρ x = .func (.func f) first cap) (w : World) :
    (execOp ρ ⟨d, .call ⟨.value x, xs.toArray, ts⟩, ty, pos, aft, gd⟩).run P w = .ok (.enter f (first ++ (xs.map ρ).toArray ++ cap)) w := by
  simp only [execOp, resolve, hx]
  simp [Deferred.ofValue, invoke, hf _ w]
theorem Gr.call {f : FuncId} {x : Operand} {xs : List Operand} {as' as : List AV} {ts : Array TypeId} {r : AV} (hf : EntersT P f) (hx : oget n F x = some (.v (.func (.func f) #[] #[]))) (hv : ogets n F xs = some as') (hsb : SbL L as' as) (hc : FnA P f as r) :
    Gr P c n (.call ⟨.value x, xs.toArray, ts⟩) ty F L r :=
  ⟨fun H w ρ hs hr d pos aft g => by
    rw [run_call hf (hr.v (by simp [Op.operands, Call.operands]) hx)]
    refine ⟨rfl, ?_⟩
    have h := hc.out H w (xs.map ρ) hs.hin (hsb.rel hs (hr.list (fun y hy => by simp [Op.operands, Call.operands, hy]) hv))
    rw [show (#[] ++ (xs.map ρ).toArray ++ #[] : Array Value) = (xs.map ρ).toArray by simp]
    refine Calls.mono h ?_
    rintro e w' ⟨v, a, H', E, rfl, ⟨rfl, rfl⟩, hrel, hst⟩
    exact ⟨v, H', rfl, hst, hrel⟩⟩
theorem Gr.callC {f : FuncId} {x : Operand} {xs : List Operand} {a : AV} {as' as caps : List AV} {ts : Array TypeId} {r : AV} (hf : EntersT P f) (hx : oget n F x = some a) (hsx : Sb L a (.fn (.func f) caps)) (hv : ogets n F xs = some as') (hsb : SbL L as' as) (hc : FnA P f (as ++ caps) r) :
    Gr P c n (.call ⟨.value x, xs.toArray, ts⟩) ty F L r :=
  ⟨fun H w ρ hs hr d pos aft g => by
    obtain ⟨vs, e, hcap⟩ := (hsx.rel hs (hr x (by simp [Op.operands, Call.operands]) _ hx)).inv_fn
    rw [run_call hf e]
    refine ⟨rfl, ?_⟩
    have h := hc.out H w (xs.map ρ ++ vs) hs.hin ((hsb.rel hs (hr.list (fun y hy => by simp [Op.operands, Call.operands, hy]) hv)).append hcap)
    rw [show (#[] ++ (xs.map ρ).toArray ++ vs.toArray : Array Value) = (xs.map ρ ++ vs).toArray by simp]
    refine Calls.mono h ?_
    rintro e w' ⟨v, a, H', E, rfl, ⟨rfl, rfl⟩, hrel, hst⟩
    exact ⟨v, H', rfl, hst, hrel⟩⟩
theorem Lx.call {f : FuncId} {x : Operand} {xs : List Operand} {as' as : List AV} {ts : Array TypeId} {Φ : AV → List Ent → Prop} (hf : EntersT P f) (hg : wantB ops n F gd = some true) (hx : oget n F x = some (.v (.func (.func f) #[] #[]))) (hv : ogets n F xs = some as') (hsb : SbL L as' as) (hc : FnE P f as Φ)
    (k : ∀ a E, Φ a E → Lx P c n ops Q rest (putF d a F) (E ++ L)) : Lx P c n ops Q (⟨d, .call ⟨.value x, xs.toArray, ts⟩, ty, pos, aft, gd⟩ :: rest) F L :=
  ⟨fun H w a hs hF => by
    refine wpList_step fun K hK => ?_
    rw [if_pos (wanted_fit (o := ⟨d, _, ty, pos, aft, gd⟩) hF.size hF.rel hg)]
    unfold Oper.wp
    have hr := hF.reads (Op.call ⟨.value x, xs.toArray, ts⟩).operands
    rw [run_call hf (hr.v (by simp [Op.operands, Call.operands]) hx)]
    simp only [Oper.upon]
    have h := hc.out H w (xs.map a.eval) hs.hin (hsb.rel hs (hr.list (fun y hy => by simp [Op.operands, Call.operands, hy]) hv))
    rw [show (#[] ++ (xs.map a.eval).toArray ++ #[] : Array Value) = (xs.map a.eval).toArray by simp]
    refine Calls.mono h ?_
    rintro e w' ⟨v, b, H', E, rfl, hp, hrel, hst⟩
    exact hK _ _ ((k b E hp).out H' w' _ (hs.trans hst) ((hF.mono hst.le).put hrel d))⟩

/-! results in cells -/
theorem Rv.cellA {t : TypeId} {a : Tmp} {k : Nat} {gg off : Nat} {T : TypeId} {z : Bool} {cs vs : List AV} (ht : AggT P t k) (hx : oget n F (.tmp a) = some (.v (.pointer (some ⟨gg, off, none⟩)))) (i : Nat) (hL : L[i]? = some (.blk gg T z cs)) (hv : (cs.drop off).take k = vs) (hk : Nat.beq vs.length k = true) :
    Rv P c n (.cell a t) F L (.agg vs) := ⟨fun H w ac hs hF => by
  obtain ⟨us, h1, h2⟩ := blk_at hs hL
  have h3 := (h2.drop off).take k
  rw [hv] at h3
  have hk' : ((us.drop off).take k).length = k := by rw [← h3.len]; exact Nat.eq_of_beq_eq_true hk
  have hl := run_loadCells_list (P := P) w ⟨gg, off, none⟩ ((us.drop off).take k) (fun j u hu => by
    have : (⟨gg, off, none⟩ : Addr).add j = ⟨gg, off + j, none⟩ := by unfold Addr.add; split <;> simp_all
    rw [this]
    rw [List.getElem?_take, List.getElem?_drop] at hu
    split at hu
    · simpa [World.cell?, h1] using hu
    · cases hu)
  rw [hk'] at hl
  have e := (hF.eval hx).inv
  simp only [Act.eval] at e
  refine ⟨.agg ((us.drop off).take k).toArray, ?_, .agg h3⟩
  simp [rvSem, e, asAddr, loadVar, run_isAgg_t ht, run_sizeOf' ht.size, hl]⟩
theorem Rv.cell1 {t : TypeId} {a : Tmp} {gg off : Nat} {T : TypeId} {z : Bool} {cs : List AV} {r : AV} (ht : OneT P t) (hx : oget n F (.tmp a) = some (.v (.pointer (some ⟨gg, off, none⟩)))) (i : Nat) (hL : L[i]? = some (.blk gg T z cs)) (hv : cs[off]? = some r) :
    Rv P c n (.cell a t) F L r := ⟨fun H w ac hs hF => by
  obtain ⟨us, h1, h2⟩ := blk_at hs hL
  obtain ⟨u, h3, h4⟩ := h2.get hv
  have hc : w.cell? ⟨gg, off, none⟩ = some u := by simp [World.cell?, h1, h3]
  have e := (hF.eval hx).inv
  simp only [Act.eval] at e
  refine ⟨u, ?_, h4⟩
  simp [rvSem, e, asAddr, loadVar, run_isAgg_f ht, hc]⟩

/-! struct literals -/
def ogetp (n : Cfg) (F : Fr) : List (Nat × Operand) → Option (List (Nat × AV))
  | [] => some []
  | (i, x) :: xs => match oget n F x with
    | some v => match ogetp n F xs with
      | some vs => some ((i, v) :: vs)
      | none => none
    | none => none
inductive RelP (H : Cells) : List (Nat × AV) → List (Nat × Value) → Prop
  | nil : RelP H [] []
  | cons {i : Nat} {a : AV} {v : Value} {as : List (Nat × AV)} {vs : List (Nat × Value)} (h : Rel H a v) (t : RelP H as vs) : RelP H ((i, a) :: as) ((i, v) :: vs)
theorem Reads.parts {xs : List (Nat × Operand)} {as : List (Nat × AV)} {A : Array Operand} {ρ : Operand → Value} (h : Reads H n F A ρ) (hm : ∀ p ∈ xs, p.2 ∈ A) (hx : ogetp n F xs = some as) : RelP H as (xs.map fun p => (p.1, ρ p.2)) := by
  induction xs generalizing as with
  | nil => simp only [ogetp, Option.some.injEq] at hx; subst hx; exact .nil
  | cons p xs ih =>
    obtain ⟨i, x⟩ := p
    simp only [ogetp] at hx
    cases h1 : oget n F x with
    | none => rw [h1] at hx; cases hx
    | some a =>
      rw [h1] at hx
      cases h2 : ogetp n F xs with
      | none => rw [h2] at hx; cases hx
      | some as' =>
        rw [h2] at hx
        simp only [Option.some.injEq] at hx
        subst hx
        exact .cons (h x (hm (i, x) (by simp)) _ h1) (ih (fun y hy => hm y (by simp [hy])) h2)
/-- the parts laid into the cells -/
def fillA (place : Nat → Option (Nat × Nat)) : List AV → List (Nat × AV) → Option (List AV)
  | cells, [] => some cells
  | cells, (i, a) :: rest => match place i with
    | none => none
    | some (off, size) => match a.ok && (Nat.beq a.cells.length size && Nat.ble (off + size) cells.length) with
      | true => fillA place (cells.take off ++ a.cells ++ cells.drop (off + size)) rest
      | false => none
theorem splice_fold (off : Nat) : ∀ (vs : List Value) (j : Nat) (cur : Array Value), off + j + vs.length ≤ cur.size → ((vs.zipIdx j).toArray.foldl (fun cs (p : Value × Nat) => cs.setIfInBounds (off + p.2) p.1) cur).toList = cur.toList.take (off + j) ++ vs ++ cur.toList.drop (off + j + vs.length)
  | [], j, cur, _ => by simp
  | v :: vs, j, cur, h => by
    have ih := splice_fold off vs (j + 1) (cur.setIfInBounds (off + j) v) (by simp at h ⊢; omega)
    simp only [List.zipIdx_cons, List.size_toArray, List.length_cons, List.foldl_toArray', List.foldl_cons] at ih ⊢
    rw [ih]
    apply List.ext_getElem?
    intro i
    simp only [List.length_cons] at h
    simp only [Array.toList_setIfInBounds, List.getElem?_append, List.getElem?_take, List.getElem?_drop, List.length_take, List.length_set, List.length_append, List.length_cons, List.getElem?_set, Array.length_toList, Array.getElem?_toList]
    rcases Nat.lt_trichotomy i (off + j) with hi | hi | hi
    · have e1 : i < off + (j + 1) := by omega
      have e2 : ¬ off + j = i := by omega
      simp only [show min (off + (j + 1)) cur.size = off + (j + 1) by omega, show min (off + j) cur.size = off + j by omega, e1, e2, hi, if_true, if_false]
      simp [show i < off + (j + 1) + vs.length by omega, show i < off + j + (vs.length + 1) by omega]
    · subst hi
      simp only [show min (off + (j + 1)) cur.size = off + (j + 1) by omega, show min (off + j) cur.size = off + j by omega]
      simp [show off + j < off + (j + 1) + vs.length by omega, show off + j < off + (j + 1) by omega, show off + j < cur.size by omega]
    · simp only [show min (off + (j + 1)) cur.size = off + (j + 1) by omega, show min (off + j) cur.size = off + j by omega]
      by_cases h2 : i < off + j + (vs.length + 1)
      · have : i < off + (j + 1) + vs.length := by omega
        simp only [h2, this, if_true, show ¬ i < off + (j + 1) by omega, show ¬ i < off + j by omega, if_false]
        rw [show i - (off + j) = (i - (off + (j + 1))) + 1 by omega, List.getElem?_cons_succ]
      · have : ¬ i < off + (j + 1) + vs.length := by omega
        simp only [h2, this, if_false]
        rw [show off + (j + 1) + vs.length + (i - (off + (j + 1) + vs.length)) = i by omega, show off + j + (vs.length + 1) + (i - (off + j + (vs.length + 1))) = i by omega]
        simp [show ¬ off + j = i by omega]
theorem fill_rel (place : Nat → Option (Nat × Nat)) : ∀ {as : List (Nat × AV)} {vs : List (Nat × Value)} {zs cs : List AV} {zv : List Value}, RelP H as vs → RelL H zs zv → fillA place zs as = some cs → ∃ us, Instr.fill place zv.toArray vs = some us.toArray ∧ RelL H cs us
  | _, _, zs, cs, zv, .nil, hz, h => by
    simp only [fillA, Option.some.injEq] at h
    subst h
    exact ⟨zv, by simp [Instr.fill], hz⟩
  | _, _, zs, cs, zv, .cons (i := i) (a := a) (v := v) hr t, hz, h => by
    simp only [fillA] at h
    cases hp : place i with
    | none => rw [hp] at h; cases h
    | some os =>
      obtain ⟨off, size⟩ := os
      rw [hp] at h
      simp only at h
      split at h
      · rename_i hc
        simp only [Bool.and_eq_true] at hc
        obtain ⟨hok, h1, h2⟩ := hc
        have h1 := Nat.eq_of_beq_eq_true h1
        have h2 := Nat.le_of_ble_eq_true h2
        have hcl := hr.cells hok
        have hs : v.cells.size = size := by have := hcl.len; rw [h1] at this; simpa using this.symm
        have hzl := hz.len
        obtain ⟨us, e, hu⟩ := fill_rel place t (((hz.take off).append hcl).append (hz.drop (off + size))) h
        refine ⟨us, ?_, hu⟩
        have hsp := splice_fold off v.cells.toList 0 zv.toArray (by simp; omega)
        have e3 : (Array.foldl (fun cs (p : Value × Nat) => cs.setIfInBounds (off + p.2) p.1) zv.toArray v.cells.zipIdx) = (zv.take off ++ v.cells.toList ++ zv.drop (off + size)).toArray := by
          apply Array.ext'
          rw [show v.cells.zipIdx = (v.cells.toList.zipIdx 0).toArray by apply Array.ext'; simp]
          rw [hsp]
          simp [hs]
        simp only [Instr.fill, hp]
        rw [if_neg (by simp [hs]; omega)]
        have e4 : (v.cells.zipIdx.foldl (fun cs x => match x with | (c, j) => cs.setIfInBounds (off + j) c) zv.toArray) = (zv.take off ++ v.cells.toList ++ zv.drop (off + size)).toArray := e3
        rw [e4]
        exact e
      · cases h
/-- the layout of a struct or an array -/
structure LayT (P : Program) (t : TypeId) (zs : List AV) (place : Nat → Option (Nat × Nat)) : Prop where
  out : ∃ z : Value, z.cells.toList.map AV.v = zs ∧ ∀ w vs us, Instr.fill place z.cells vs = some us → (Instr.build t vs.toArray).run P w = .ok (.agg us) w
structure BldT (P : Program) (t : TypeId) (ps : List (Nat × AV)) (cs : List AV) : Prop where
  out : ∃ zs place, LayT P t zs place ∧ fillA place zs ps = some cs
theorem lay_struct {t : TypeId} {z : Value} {fs : Array Field} {pl : Array (Nat × Nat)} {zs : List AV} (hz : (P.info? t).bind (·.zero) = some z) (hzs : z.cells.toList.map AV.v = zs) (hu : P.underlying t = some (.struct fs)) (hp : ∀ w, (fs.mapM (m := Sem) fun f => Prod.mk f.offset <$> sizeOf f.type).run P w = .ok pl w) : LayT P t zs (pl[·]?) :=
  ⟨z, hzs, fun w vs us hf => by
    cases hi : P.info? t with
    | none => rw [hi] at hz; cases hz
    | some i =>
      rw [hi] at hz
      simp only [Option.bind_some] at hz
      simp [Instr.build, zeroValue, typeInfo, hi, hz, run_und hu, hp w, hf]⟩
theorem lay_array {t e : TypeId} {len k : Nat} {z : Value} {zs : List AV} (hz : (P.info? t).bind (·.zero) = some z) (hzs : z.cells.toList.map AV.v = zs) (hu : ArrT P t len e k) : LayT P t zs (fun i => some (i * k, k)) :=
  ⟨z, hzs, fun w vs us hf => by
    cases hi : P.info? t with
    | none => rw [hi] at hz; cases hz
    | some i =>
      rw [hi] at hz
      simp only [Option.bind_some] at hz
      simp [Instr.build, zeroValue, typeInfo, hi, hz, run_und hu.und, run_sizeOf' hu.size, hf]⟩
theorem Gr.build {t : TypeId} {xs : List (Nat × Operand)} {ps : List (Nat × AV)} {cs : List AV} (hv : ogetp n F xs = some ps) (hb : BldT P t ps cs) : Gr P c n (.build t xs.toArray) ty F L (.agg cs) :=
  .pure fun H w ρ hs hr d pos aft _ => by
    obtain ⟨zs, place, ⟨z, hz, hl⟩, hf⟩ := hb.out
    have hp := hr.parts (xs := xs) (fun p hp => by simp only [Op.operands, List.mem_toArray, List.mem_map]; exact ⟨p, by simpa using hp, rfl⟩) hv
    obtain ⟨us, e, hu⟩ := fill_rel place hp (show RelL H zs z.cells.toList by rw [← hz]; exact relL_v H _) hf
    refine ⟨.agg us.toArray, ?_, .agg hu⟩
    have hrun := hl w _ _ e
    simp only [execOp]
    rw [show (xs.toArray.map fun x => match x with | (i, x) => (i, ρ x)) = (xs.map fun p => (p.1, ρ p.2)).toArray by simp]
    simp [hrun]
end
end Go.E2
