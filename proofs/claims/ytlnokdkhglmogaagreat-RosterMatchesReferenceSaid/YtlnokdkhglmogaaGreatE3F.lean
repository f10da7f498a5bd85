/-
  The engine, second make, part F: rows of the call's own; append; comparisons of structs; parts of values.
  Conditions: none beyond the premises of each rule.
-/
import Derived.Test.YtlnokdkhglmogaaGreatE3E
namespace Go.E2
open Go.RowKit
section
variable {P : Program} {c : Ctx} {n : Cfg} {Q : Exit → Act → World → Prop} {F : Fr} {L : List Ent} {ops : Array Oper} {ty : TypeId}
variable {d : Option Tmp} {o : Op} {pos : String} {aft : Array Edge} {gd : Option (Nat × Bool)} {rest : List Oper} {H : Cells} {w : World}
theorem AV.one_cells {a : AV} (h : a.one = true) : a.cells = [a] := by cases a <;> first | rfl | (cases h; done)
theorem AV.one_ok {a : AV} (h : a.one = true) : a.ok = true := by cases a <;> first | rfl | (cases h; done) | (rename_i x; cases x <;> first | rfl | (cases h; done))
theorem AV.cells_agg (cs : List AV) : (AV.agg cs).cells = cs := rfl
theorem AV.ok_agg (cs : List AV) : (AV.agg cs).ok = true := rfl
theorem AV.cells_v (x : Value) : (AV.v x).cells = [.v x] := rfl
theorem Lx.sub {l : List Oper} {L' : List Ent} (hs : L'.Sublist L) (k : Lx P c n ops Q l F L') : Lx P c n ops Q l F L := ⟨fun H w a h hF => k.out H w a (h.sub hs) hF⟩
theorem Lx.tl {l : List Oper} {e : Ent} (k : Lx P c n ops Q l F L) : Lx P c n ops Q l F (e :: L) := k.sub (List.sublist_cons_self _ _)
theorem Cx.tl {x : Code} {e : Ent} (k : Cx P c n x Q F L) : Cx P c n x Q F (e :: L) := ⟨fun H w a h hF => k.out H w a (h.sub (List.sublist_cons_self _ _)) hF⟩

/-! slice literals -/
structure BslT (P : Program) (t e : TypeId) (len size : Nat) (ps : List (Nat × AV)) (xs : List AV) : Prop where
  und : P.underlying t = some (.slice e)
  sz : (P.info? e).map (·.size) = some size
  pos : 0 < size
  hlen : xs.length = len
  small : len * size ≤ 16777216
  cells : ∀ x ∈ xs, x.cells.length = size
  zero : ∃ z, (P.info? e).bind (·.zero) = some z ∧ fillA (fun i => some (i * size, size)) (((Array.range (len * size)).map (z.cells[· % z.cells.size]!)).toList.map AV.v) ps = some (xs.flatMap AV.cells)
theorem St.newRow {w : World} (hi : HIn H w) (e : TypeId) (len size : Nat) {xs : List AV} {us : List Value} (hlen : xs.length = len) (_hp : 0 < size) (hsm : len ≤ maxLen) (hc : ∀ x ∈ xs, x.cells.length = size) (hr : RelL H (xs.flatMap AV.cells) us) :
    St ⟨w, H⟩ H (w.alloc (.cells us.toArray e)) [.row (.slice (some ⟨w.heap.size, 0, none⟩) len len) e size 0 false xs] := by
  have hflat : ∀ l : List AV, (∀ x ∈ l, x.cells.length = size) → (l.flatMap AV.cells).length = l.length * size := fun l => by
    induction l with
    | nil => simp
    | cons a l ih =>
      intro h
      rw [List.flatMap_cons, List.length_append, h a (by simp), ih (fun x hx => h x (by simp [hx])), List.length_cons, Nat.succ_mul]
      omega
  have hl : us.length = len * size := by rw [← hr.len, hflat xs hc, hlen]
  refine ⟨(Below.refl _ _).alloc (Nat.le_refl _) _, Cells.le_refl _, hin_heap hi (fun b o u hu => Below.heap_alloc _ _ _ (hi.lt hu)), fun _ _ _ h _ => h, ?_, by simp, Nat.le_refl _⟩
  intro x hx
  simp only [List.mem_singleton] at hx
  subst hx
  refine ⟨us, ⟨by rw [hl, hlen], .inr ⟨w.heap.size, len, us.toArray, by rw [hlen], Nat.le_refl _, heap_alloc_new w _, by omega, hsm, by simp [hl], ?_⟩⟩, hr, hc, by omega, fun g hg o _ => ?_, fun h => by cases h⟩
  · rw [hlen, ← hl]; simp
  · simp only [Value.ownBlock, Option.some.injEq] at hg
    subst hg
    cases hu : H w.heap.size o with
    | none => rfl
    | some u => have := hi.lt hu; omega
theorem bsl_run {w : World} {ρ : Operand → Value} {t e : TypeId} {len size : Nat} {xs : List (Nat × Operand)} {ps : List (Nat × AV)} {es : List AV} (hr : Reads H n F (Op.buildSlice t len xs.toArray).operands ρ) (hv : ogetp n F xs = some ps) (hb : BslT P t e len size ps es) (d : Option Tmp) (pos : String) (aft : Array Edge) (gd : Option (Nat × Bool)) :
    ∃ us, (execOp ρ ⟨d, .buildSlice t len xs.toArray, ty, pos, aft, gd⟩).run P w = .ok (.value (.slice (some ⟨w.heap.size, 0, none⟩) len len)) (w.alloc (.cells us.toArray e)) ∧ RelL H (es.flatMap AV.cells) us ∧ len ≤ maxLen := by
  obtain ⟨z, hz, hf⟩ := hb.zero
  have hp := hr.parts (xs := xs) (fun p hp => by simp only [Op.operands, List.mem_toArray, List.mem_map]; exact ⟨p, by simpa using hp, rfl⟩) hv
  obtain ⟨us, e1, hu⟩ := fill_rel _ hp (relL_v H _) hf
  have hlm : len ≤ maxLen := by
    have h1 := hb.small
    have h2 : len * 1 ≤ len * size := Nat.mul_le_mul_left _ hb.pos
    unfold maxLen; omega
  refine ⟨us, ?_, hu, hlm⟩
  cases hi : P.info? e with
  | none => rw [hi] at hz; cases hz
  | some i =>
    rw [hi] at hz
    simp only [Option.bind_some] at hz
    have e2 : (xs.toArray.map fun x => match x with | (i, x) => (i, ρ x)) = (xs.map fun p => (p.1, ρ p.2)).toArray := by simp
    simp only [execOp, e2]
    by_cases h0 : len * size = 0
    · have hl0 : len = 0 := by rcases Nat.mul_eq_zero.1 h0 with h | h; exact h; have := hb.pos; omega
      rw [Array.toArray_toList, h0] at e1
      have hsm : ¬ (len * size > 2 ^ 24) := by have := hb.small; omega
      simp only [Instr.buildSlice, Sem.run_bind, run_und hb.und, run_sizeOf' hb.sz, Result.andThen_ok, h0, if_true]
      have e5 : Array.map (fun x => z.cells[x % z.cells.size]!) (Array.range 0) = #[] := by simp [Array.range]
      have e6 : Array.range 0 = #[] := by simp [Array.range]
      rw [e5] at e1
      simp [newRow, e6, e1]
    · have hsm : ¬ (len * size > 2 ^ 24) := by have := hb.small; omega
      rw [Array.toArray_toList] at e1
      simp only [Instr.buildSlice, Sem.run_bind, run_und hb.und, run_sizeOf' hb.sz, Result.andThen_ok, hsm, if_false, h0]
      simp [zeroValue, typeInfo, hi, hz, e1, newRow]
theorem Lx.buildSlice {t e : TypeId} {len size : Nat} {xs : List (Nat × Operand)} {ps : List (Nat × AV)} {es : List AV} (hg : wantB ops n F gd = some true) (hv : ogetp n F xs = some ps) (hb : BslT P t e len size ps es)
    (k : ∀ v, Lx P c n ops Q rest (putF d (.v v) F) (.row v e size 0 false es :: L)) : Lx P c n ops Q (⟨d, .buildSlice t len xs.toArray, ty, pos, aft, gd⟩ :: rest) F L :=
  Lx.op hg fun H w a hs hF => by
    obtain ⟨us, h1, hu, hlm⟩ := bsl_run (ty := ty) (w := w) (hF.reads (Op.buildSlice t len xs.toArray).operands) hv hb d pos aft gd
    exact ⟨_, w.alloc (.cells us.toArray e), _, _, H, _, h1, .inl rfl, Cells.le_refl _, hs.trans (St.newRow hs.hin e len size hb.hlen hb.pos hlm hb.cells hu), .v _, k _⟩
/-- a slice literal that nobody writes to -/
theorem Gr.bsl {t e : TypeId} {len size : Nat} {xs : List (Nat × Operand)} {ps : List (Nat × AV)} {es : List AV} (hv : ogetp n F xs = some ps) (hb : BslT P t e len size ps es) : Gr P c n (.buildSlice t len xs.toArray) ty F L (.sl size es) :=
  ⟨fun H w ρ hs hr d pos aft g => by
    obtain ⟨us, h1, hu, hlm⟩ := bsl_run (ty := ty) (w := w) hr hv hb d pos aft g
    rw [h1]
    have h2 := St.newRow hs.hin e len size hb.hlen hb.pos hlm hb.cells hu
    obtain ⟨H', _, h4⟩ := h2.freezeRow (i := 0) rfl
    exact ⟨H', h4.sub (List.nil_sublist _), (Sb.row 0 rfl).rel h4 (.v _)⟩⟩

/-! append -/
structure ApT (P : Program) (t e : TypeId) (size bytes : Nat) : Prop where
  out : ∃ z, P.underlying t = some (.slice e) ∧ (P.info? e).map (fun i => (i.zero, i.size, i.bytes)) = some (some z, size, bytes) ∧ z.cells.size = size ∧ 0 < size ∧ 0 < bytes
theorem ApT.parts {t e : TypeId} {size bytes : Nat} (h : ApT P t e size bytes) : ∃ i z, P.underlying t = some (.slice e) ∧ P.info? e = some i ∧ i.zero = some z ∧ i.size = size ∧ i.bytes = bytes ∧ z.cells.size = size ∧ 0 < size ∧ 0 < bytes := by
  obtain ⟨z, h1, h2, h3, h4, h5⟩ := h.out
  cases hi : P.info? e with
  | none => rw [hi] at h2; cases h2
  | some i =>
    rw [hi] at h2
    simp only [Option.map_some, Option.some.injEq, Prod.mk.injEq] at h2
    exact ⟨i, z, h1, rfl, h2.1, h2.2.1, h2.2.2, h3, h4, h5⟩
/-- the cells that were there are kept, whether the row grew in its place or elsewhere -/
theorem append_keeps {w : World} {base : Nat} {t ty e : TypeId} {i : TypeInfo} {z : Value} (ht : P.underlying t = some (.slice e)) (hi : P.info? e = some i) (hz : i.zero = some z)
    {v : Value} {k : Nat} {us : List Value} (hown : w.ownsRow base e i.size v k us) {a : Addr} {m cp : Nat} {news : List Value} (hl : news.length = m * i.size) (hnews : ∀ j u, news[j]? = some u → w.cell? (a.add j) = some u) (h1 : ∀ u ∈ news, u.oneCell' = true) (h63 : k + m ≤ maxLen) (hbytes : (k + m) * i.bytes ≤ 140737488355328)
    {v' : Value} {w' : World} (hrun : (Builtin.append_ #[t, t] ty #[v, .slice (some a) m cp]).run P w = .ok v' w') : ∀ g o, v.ownBlock = some g → o < k * i.size → w'.cell? ⟨g, o, none⟩ = w.cell? ⟨g, o, none⟩ := by
  intro g o hg ho
  rcases hown.2 with ⟨rfl, _⟩ | ⟨g', cap, cur, rfl, hb, hh, q1, q2, q3, q4⟩
  · simp [Value.ownBlock] at hg
  · simp only [Value.ownBlock, Option.some.injEq] at hg
    subst hg
    have hsmall : k + m ≤ 9223372036854775807 := by simp only [maxLen] at h63; omega
    by_cases hroom : k + m ≤ cap
    · have hfit : k * i.size + news.length ≤ cur.size := by rw [hl, q3, ← Nat.add_mul]; exact Nat.mul_le_mul_right _ hroom
      have hr := run_append_room (P := P) w t ty e i ht hi g' k cap cur hh a m cp news hl hnews h1 hroom hfit
      rw [hrun] at hr
      cases hr
      have h3 := setRow_heap w g' cur (cur.toList.take (k * i.size) ++ news ++ cur.toList.drop (k * i.size + news.length)).toArray e (0, 0) hh
      simp only [World.cell?, h3, hh, Option.isSome_none, Bool.false_eq_true, if_false, List.getElem?_toArray]
      rw [List.append_assoc, List.getElem?_append_left (by simp; omega), List.getElem?_take, if_pos ho]
      simp
    · have holds : ∀ j u, us[j]? = some u → w.cell? ((⟨g', 0, none⟩ : Addr).add j) = some u := hown.cells (g := g') rfl
      have hr := run_append_grow (P := P) w t ty e i z ht hi hz ⟨g', 0, none⟩ k cap us hown.1 holds a m cp news hl hnews (by omega) (by omega) (growslice_fits (by omega) hbytes)
      rw [hrun] at hr
      cases hr
      exact World.cell?_of_block (Below.heap_alloc w.drew _ g' (by simpa using blk_lt hh))
theorem append_draws {w : World} {base : Nat} {t ty e : TypeId} {i : TypeInfo} {z : Value} (ht : P.underlying t = some (.slice e)) (hi : P.info? e = some i) (hz : i.zero = some z)
    {v : Value} {k : Nat} {us : List Value} (hown : w.ownsRow base e i.size v k us) {a : Addr} {m cp : Nat} {news : List Value} (hl : news.length = m * i.size) (hnews : ∀ j u, news[j]? = some u → w.cell? (a.add j) = some u) (h1 : ∀ u ∈ news, u.oneCell' = true) (h63 : k + m ≤ maxLen) (hbytes : (k + m) * i.bytes ≤ 140737488355328) (hm : m ≠ 0)
    {v' : Value} {w' : World} (hrun : (Builtin.append_ #[t, t] ty #[v, .slice (some a) m cp]).run P w = .ok v' w') : w.drawn ≤ w'.drawn := by
  have hsmall : k + m ≤ 9223372036854775807 := by simp only [maxLen] at h63; omega
  rcases hown.2 with ⟨rfl, hk⟩ | ⟨g', cap, cur, rfl, hb, hh, q1, q2, q3, q4⟩
  · subst hk
    have hr := run_append_nil (P := P) w t ty e i z ht hi hz a m cp news hl hnews (by omega) (by omega) (by have hb := hbytes; simp only [Nat.zero_add] at hb; omega)
    rw [hrun] at hr
    cases hr
    show w.drawn ≤ w.drawn + 1
    omega
  · by_cases hroom : k + m ≤ cap
    · have hfit : k * i.size + news.length ≤ cur.size := by rw [hl, q3, ← Nat.add_mul]; exact Nat.mul_le_mul_right _ hroom
      have hr := run_append_room (P := P) w t ty e i ht hi g' k cap cur hh a m cp news hl hnews h1 hroom hfit
      rw [hrun] at hr
      cases hr
      exact Nat.le_refl _
    · have holds : ∀ j u, us[j]? = some u → w.cell? ((⟨g', 0, none⟩ : Addr).add j) = some u := hown.cells (g := g') rfl
      have hr := run_append_grow (P := P) w t ty e i z ht hi hz ⟨g', 0, none⟩ k cap us hown.1 holds a m cp news hl hnews (by omega) (by omega) (growslice_fits (by omega) hbytes)
      rw [hrun] at hr
      cases hr
      show w.drawn ≤ w.drawn + 1
      omega
theorem flat_len {size : Nat} : ∀ l : List AV, (∀ x ∈ l, x.cells.length = size) → (l.flatMap AV.cells).length = l.length * size
  | [], _ => by simp
  | a :: l, h => by
    rw [List.flatMap_cons, List.length_append, h a (by simp), flat_len l (fun x hx => h x (by simp [hx])), List.length_cons, Nat.succ_mul]
    omega
theorem RelE.flat : ∀ {k b o : Nat} {xs : List AV}, RelE H k b o xs → RelC H b o (xs.flatMap AV.cells) ∧ ∀ x ∈ xs, x.cells.length = k
  | _, _, _, _, .nil => ⟨by simpa using RelC.nil, by simp⟩
  | k, b, o, _, .cons (x := x) (xs := xs) hk h t => by
    obtain ⟨h1, h2⟩ := RelE.flat t
    refine ⟨?_, fun y hy => by rcases List.mem_cons.1 hy with rfl | hy; exact hk; exact h2 y hy⟩
    have happ : ∀ {cs : List AV} {o : Nat}, RelC H b o cs → ∀ {ds : List AV}, RelC H b (o + cs.length) ds → RelC H b o (cs ++ ds) := by
      intro cs
      induction cs with
      | nil => intro o _ ds h; simpa using h
      | cons c cs ih =>
        intro o h ds h2
        cases h with
        | cons hu h t => exact .cons hu h (ih t (by rw [List.length_cons] at h2; rw [show o + 1 + cs.length = o + (cs.length + 1) by omega]; exact h2))
    rw [List.flatMap_cons]
    exact happ h (by rw [hk]; exact h1)
theorem Lx.append {t e : TypeId} {size bytes m : Nat} {z : Bool} {s x : Operand} {v : Value} {a : AV} {xs ys : List AV} (hap : ApT P t e size bytes) (hg : wantB ops n F gd = some true) (hs : oget n F s = some (.v v)) (hx : oget n F x = some a)
    (i : Nat) (hi : L[i]? = some (.row v e size m z xs)) (hsb : Sb L a (.sl size ys)) (h1 : (ys.flatMap AV.cells).all AV.one = true) (hb : (xs.length + ys.length) * bytes ≤ 140737488355328)
    (k : ∀ v', Lx P c n ops Q rest (putF d (.v v') F) (L.set i (.row v' e size m false (xs ++ ys)))) :
    Lx P c n ops Q (⟨d, .call ⟨.builtin .append, #[s, x], #[t, t]⟩, ty, pos, aft, gd⟩ :: rest) F L :=
  Lx.op hg fun H w ac hst hF => by
    obtain ⟨i0, zz, q1, q2, q3, q4, q5, q6, q7, q8⟩ := hap.parts
    obtain ⟨us, hrow, hrel, hcl, hm, hno, hyes⟩ := hst.holds _ (List.mem_of_getElem? hi)
    have hle : xs.length + ys.length ≤ maxLen := by
      have : (xs.length + ys.length) * 1 ≤ (xs.length + ys.length) * bytes := Nat.mul_le_mul_left _ q8
      unfold maxLen
      omega
    have hxr := hsb.rel hst (hF.eval hx)
    obtain ⟨A, cap, ex, g1, g2, g3⟩ := hxr.inv_sl
    have hsv := (hF.eval hs).inv
    by_cases hne : ys = []
    · subst hne
      refine ⟨.value v, w, v, .v v, H, _, ?_, .inl rfl, Cells.le_refl _, ?_, .v _, k v⟩
      · rcases hrow.2 with ⟨rfl, _⟩ | ⟨g, cap', cur, rfl, _, _, c1, _⟩
        · simp only [execOp, resolve, invoke, builtin]
          simp [hsv, ex, Builtin.append_, run_und q1, sizeOf, typeInfo, q2, Builtin.lenOf, Builtin.firstCells]
          cases A <;> simp [loadCells, loadCellsFrom]
        · simp only [execOp, resolve, invoke, builtin]
          simp [hsv, ex, Builtin.append_, run_und q1, sizeOf, typeInfo, q2, Builtin.lenOf, Builtin.firstCells, c1]
          cases A <;> simp [loadCells, loadCellsFrom, storeCells]
      · rw [List.append_nil]
        refine hst.turn hi hst.hin ⟨us, hrow, hrel, hcl, hm, hno, fun h => by cases h⟩ ⟨rfl, rfl, rfl, Nat.le_refl _, fun _ _ _ => rfl⟩ (.inl rfl) (Nat.le_refl _)
    · obtain ⟨b, off, eA, hE⟩ := g3 hne
      obtain ⟨hC, hcl2⟩ := hE.flat
      obtain ⟨news, hn1, hn2⟩ := hC.list
      have hnl : news.length = ys.length * size := by rw [← hn1.len, flat_len ys hcl2]
      have hcells : ∀ j u, news[j]? = some u → w.cell? ((⟨b, off, none⟩ : Addr).add j) = some u := fun j u hu => by
        have : (⟨b, off, none⟩ : Addr).add j = ⟨b, off + j, none⟩ := by unfold Addr.add; split <;> simp_all
        rw [this]
        exact hst.hin _ _ _ (hn2 j u hu)
      have hone : ∀ u ∈ news, u.oneCell' = true := fun u hu => hn1.oneAll h1 u hu
      obtain ⟨v', w', hrun, r1, r2, _, r4⟩ := run_append_own_at (P := P) w c.w0.heap.size t ty e i0 zz size bytes q1 q2 q3 q4 q5 q6 q7 v xs.length us hrow ⟨b, off, none⟩ ys.length cap news hnl hcells hone hle hb hst.size
      have hkeep := append_keeps (P := P) (w := w) (ty := ty) q1 q2 q3 (by rw [q4]; exact hrow) (by rw [q4]; exact hnl) hcells hone hle (by rw [q5]; exact hb) hrun
      have hdraw := append_draws (P := P) (w := w) (ty := ty) q1 q2 q3 (by rw [q4]; exact hrow) (by rw [q4]; exact hnl) hcells hone hle (by rw [q5]; exact hb) (fun h => hne (List.eq_nil_of_length_eq_zero h)) hrun
      rw [q4] at hkeep
      have hH : ∀ g o u, v.ownBlock = some g → H g o = some u → o < xs.length * size := fun g o u hg hu => by
        rcases Nat.lt_or_ge o (xs.length * size) with h | h
        · exact h
        · rw [hno g hg o (Nat.le_trans (Nat.mul_le_mul_right _ hm) h)] at hu; cases hu
      have hin' : HIn H w' := fun g o u hu => by
        by_cases hgb : v.ownBlock = some g
        · rw [hkeep g o hgb (hH g o u hgb hu)]; exact hst.hin g o u hu
        · have hbk := r2.block g (hst.hin.lt hu) (fun e => hgb e.symm)
          rw [← hst.hin g o u hu]
          simp [World.cell?, hbk]
      refine ⟨.value v', w', v', .v v', H, _, ?_, .inl rfl, Cells.le_refl _, hst.turn hi (e' := .row v' e size m false (xs ++ ys)) hin' ?_ r2 ?_ hdraw, .v _, k v'⟩
      · simp [execOp, resolve, invoke, builtin, hsv, ex, eA, hrun]
      · refine ⟨us ++ news, by rw [List.length_append]; exact r1, by rw [List.flatMap_append]; exact hrel.append hn1, fun x hx => ?_, by rw [List.length_append]; omega, fun g hg o ho => ?_, fun h => by cases h⟩
        · rcases List.mem_append.1 hx with h | h
          · exact hcl x h
          · exact hcl2 x h
        · rcases r4 with r4 | r4
          · rw [r4] at hg; exact hno g hg o ho
          · rw [r4] at hg
            cases hg
            cases hu : H w.heap.size o with
            | none => rfl
            | some u => have := hst.hin.lt hu; omega
      · rcases r4 with r4 | r4
        · exact .inl r4
        · exact .inr (.inl r4)

/-! rows read and written in their place -/
theorem add_none (b o j : Nat) : (⟨b, o, none⟩ : Addr).add j = ⟨b, o + j, none⟩ := by unfold Addr.add; split <;> simp_all
def blkOf (v : Value) : Nat := v.ownBlock.getD 0
theorem row_at {i : Nat} {v : Value} {T : TypeId} {k m : Nat} {z : Bool} {xs : List AV} (hs : St c H w L) (hL : L[i]? = some (.row v T k m z xs)) (hne : xs ≠ []) :
    ∃ cap cur us, v = .slice (some ⟨blkOf v, 0, none⟩) xs.length cap ∧ w.heap[blkOf v]? = some (.cells cur T (0, 0)) ∧ xs.length ≤ cap ∧ cur.size = cap * k ∧ cur.toList.take (xs.length * k) = us ∧ RelL H (xs.flatMap AV.cells) us ∧ (∀ x ∈ xs, x.cells.length = k) ∧ us.length = xs.length * k := by
  obtain ⟨us, hrow, hrel, hcl, hm, hno, hyes⟩ := hs.holds _ (List.mem_of_getElem? hL)
  rcases hrow.2 with ⟨_, hn⟩ | ⟨g, cap, cur, hv, _, hh, c1, _, c3, c4⟩
  · exact absurd (List.eq_nil_of_length_eq_zero hn) hne
  · have hb : blkOf v = g := by rw [hv]; rfl
    exact ⟨cap, cur, us, by rw [hb]; exact hv, by rw [hb]; exact hh, c1, c3, c4, hrel, hcl, hrow.1⟩
theorem flat_get {size : Nat} : ∀ (l : List AV) (i : Nat) (x : AV) (j : Nat) (r : AV), (∀ x ∈ l, x.cells.length = size) → l[i]? = some x → x.cells[j]? = some r → (l.flatMap AV.cells)[i * size + j]? = some r
  | [], i, p, j, u, _, h, _ => by simp at h
  | a :: l, 0, p, j, u, hk, h, hu => by
    simp only [List.getElem?_cons_zero, Option.some.injEq] at h
    subst h
    have hj : j < a.cells.length := (List.getElem?_eq_some_iff.1 hu).1
    rw [List.flatMap_cons, Nat.zero_mul, Nat.zero_add, List.getElem?_append_left hj]
    exact hu
  | a :: l, i + 1, p, j, u, hk, h, hu => by
    simp only [List.getElem?_cons_succ] at h
    have := flat_get l i p j u (fun x hx => hk x (by simp [hx])) h hu
    have ha := hk a (by simp)
    rw [List.flatMap_cons, List.getElem?_append_right (by rw [ha, Nat.succ_mul]; omega), ha]
    rw [show (i + 1) * size + j - size = i * size + j by rw [Nat.succ_mul]; omega]
    exact this
theorem Gr.lenR {t e T : TypeId} {k m : Nat} {z : Bool} {x : Operand} {v : Value} {xs : List AV} (ht : SlcT P t e k) (i : Nat) (hx : oget n F x = some (.v v)) (hL : L[i]? = some (.row v T k m z xs)) : Gr P c n (.call ⟨.builtin .len, #[x], #[t]⟩) ty F L (I xs.length) :=
  .pure fun H w ρ hs hr d pos aft _ => by
    obtain ⟨us, hrow, _⟩ := hs.holds _ (List.mem_of_getElem? hL)
    refine ⟨.int .i64 xs.length, ?_, .v _⟩
    have e := hr.v (by simp [Op.operands, Call.operands]) hx
    rcases hrow.2 with ⟨hv, hn⟩ | ⟨g, cap, cur, hv, _⟩
    · rw [hn]
      simp [execOp, resolve, invoke, builtin, e, hv, Builtin.len_, run_und ht.und, goInt]
    · simp [execOp, resolve, invoke, builtin, e, hv, Builtin.len_, run_und ht.und, goInt]
theorem Gr.idxR {q : IntKind} {a : Int} {t e T : TypeId} {k m : Nat} {z : Bool} {x y : Operand} {v : Value} {xs : List AV} (ht : SlcT P t e k) (i : Nat) (hx : oget n F x = some (.v v)) (hL : L[i]? = some (.row v T k m z xs)) (hy : oget n F y = some (.v (.int q a))) (h0 : 0 ≤ a) (h1 : a < xs.length) :
    Gr P c n (.indexAddr t x y) ty F L (.v (.pointer (some ⟨blkOf v, a.toNat * k, none⟩))) :=
  .pure fun H w ρ hs hr d pos aft _ => by
    obtain ⟨cap, cur, us, hv, _⟩ := row_at hs hL (by rintro rfl; simp at h1; omega)
    refine ⟨_, ?_, .v _⟩
    have e := hr.v (x := x) (by simp [Op.operands]) hx
    rw [hv] at e
    have : (⟨blkOf v, 0, none⟩ : Addr).add (a.toNat * k) = ⟨blkOf v, a.toNat * k, none⟩ := by rw [add_none, Nat.zero_add]
    simp only [execOp, e, hr.v (x := y) (by simp [Op.operands]) hy, Instr.indexAt, asIntOf]
    simp [run_und ht.und, h0, h1, run_sizeOf' ht.size, this]
theorem row_cell {i : Nat} {v : Value} {T : TypeId} {k m j a : Nat} {z : Bool} {xs : List AV} {x r : AV} (hs : St c H w L) (hL : L[i]? = some (.row v T k m z xs)) (hx : xs[a]? = some x) (hr : x.cells[j]? = some r) : ∃ u, w.cell? ⟨blkOf v, a * k + j, none⟩ = some u ∧ Rel H r u := by
  obtain ⟨cap, cur, us, hv, hh, h1, h2, h3, hrel, hcl, hul⟩ := row_at hs hL (by rintro rfl; simp at hx)
  obtain ⟨u, hu, hru⟩ := hrel.get (flat_get xs a x j r hcl hx hr)
  refine ⟨u, ?_, hru⟩
  rw [← h3, List.getElem?_take] at hu
  split at hu
  · simpa [World.cell?, hh] using hu
  · cases hu
theorem Gr.ldR {t T : TypeId} {x : Operand} {v : Value} {a j k m : Nat} {z : Bool} {xs : List AV} {p r : AV} (ht : OneT P t) (i : Nat) (hx : oget n F x = some (.v (.pointer (some ⟨blkOf v, a * k + j, none⟩)))) (hL : L[i]? = some (.row v T k m z xs)) (hp : xs[a]? = some p) (hr : p.cells[j]? = some r) :
    Gr P c n (.load t x) ty F L r :=
  .pure fun H w ρ hs hr' d pos aft _ => by
    obtain ⟨u, h1, h2⟩ := row_cell hs hL hp hr
    exact ⟨u, by simp [execOp, hr'.v (by simp [Op.operands]) hx, run_load1 ht h1], h2⟩
theorem Gr.ldR0 {t T : TypeId} {x : Operand} {v : Value} {a k m : Nat} {z : Bool} {xs : List AV} {p r : AV} (ht : OneT P t) (i : Nat) (hx : oget n F x = some (.v (.pointer (some ⟨blkOf v, a * k, none⟩)))) (hL : L[i]? = some (.row v T k m z xs)) (hp : xs[a]? = some p) (hr : p.cells[0]? = some r) :
    Gr P c n (.load t x) ty F L r := Gr.ldR (j := 0) ht i hx hL hp hr
theorem Gr.ldRA {t T : TypeId} {x : Operand} {v : Value} {a k m : Nat} {z : Bool} {xs : List AV} {cs : List AV} (ht : AggT P t k) (i : Nat) (hx : oget n F x = some (.v (.pointer (some ⟨blkOf v, a * k, none⟩)))) (hL : L[i]? = some (.row v T k m z xs)) (hp : xs[a]? = some (.agg cs)) :
    Gr P c n (.load t x) ty F L (.agg cs) :=
  .pure fun H w ρ hs hr' d pos aft _ => by
    obtain ⟨cap, cur, us, hv, hh, h1, h2, h3, hrel, hcl, hul⟩ := row_at hs hL (by rintro rfl; simp at hp)
    have hk : cs.length = k := hcl _ (List.mem_of_getElem? hp)
    have hget : ∀ j r, cs[j]? = some r → ∃ u, us[a * k + j]? = some u ∧ Rel H r u := fun j r hr => hrel.get (flat_get xs a (.agg cs) j r hcl hp hr)
    have hmk : ∀ (ds : List AV) (o : Nat), (∀ j r, ds[j]? = some r → ∃ u, us[o + j]? = some u ∧ Rel H r u) → ∃ vs, RelL H ds vs ∧ ∀ j u, vs[j]? = some u → us[o + j]? = some u := by
      intro ds
      induction ds with
      | nil => intro o _; exact ⟨[], .nil, by simp⟩
      | cons r ds ih =>
        intro o h
        obtain ⟨u, e1, e2⟩ := h 0 r rfl
        obtain ⟨vs, e3, e4⟩ := ih (o + 1) (fun j r hr => by rw [show o + 1 + j = o + (j + 1) by omega]; exact h (j + 1) r (by simpa using hr))
        refine ⟨u :: vs, .cons e2 e3, fun j u' hu => ?_⟩
        cases j with
        | zero => simp only [List.getElem?_cons_zero, Option.some.injEq] at hu; subst hu; exact e1
        | succ j => rw [show o + (j + 1) = o + 1 + j by omega]; exact e4 j u' (by simpa using hu)
    obtain ⟨vs, e3, e4⟩ := hmk cs (a * k) hget
    refine ⟨.agg vs.toArray, ?_, .agg e3⟩
    simp [execOp, hr'.v (by simp [Op.operands]) hx, run_loadA ht (by rw [← e3.len]; exact hk) (b := blkOf v) (o := a * k) (w := w) (fun j u hu => by
      have h5 := e4 j u hu
      rw [← h3, List.getElem?_take] at h5
      split at h5
      · simpa [World.cell?, hh] using h5
      · cases h5)]
/-- x with its cell j turned -/
def AV.setCell : AV → Nat → AV → AV
  | .agg cs, j, r => .agg (cs.set j r)
  | _, _, r => r
theorem flat_set {size : Nat} : ∀ (l : List AV) (i : Nat) (x : AV) (j : Nat) (r : AV), (∀ x ∈ l, x.cells.length = size) → l[i]? = some x → j < size → x.cells.length = (x.setCell j r).cells.length → (x.setCell j r).cells = x.cells.set j r → (l.set i (x.setCell j r)).flatMap AV.cells = (l.flatMap AV.cells).set (i * size + j) r
  | [], i, p, j, u, _, h, _, _, _ => by simp at h
  | a :: l, 0, p, j, u, hk, h, hj, hl, hc => by
    simp only [List.getElem?_cons_zero, Option.some.injEq] at h
    subst h
    have ha := hk a (by simp)
    rw [List.set_cons_zero, List.flatMap_cons, List.flatMap_cons, hc, Nat.zero_mul, Nat.zero_add, List.set_append_left _ _ (by omega)]
  | a :: l, i + 1, p, j, u, hk, h, hj, hl, hc => by
    simp only [List.getElem?_cons_succ] at h
    have ih := flat_set l i p j u (fun x hx => hk x (by simp [hx])) h hj hl hc
    have ha := hk a (by simp)
    rw [List.set_cons_succ, List.flatMap_cons, List.flatMap_cons, ih, List.set_append_right _ _ (by rw [ha, Nat.succ_mul]; omega), ha, show (i + 1) * size + j - size = i * size + j by rw [Nat.succ_mul]; omega]
theorem Lx.stR {t T : TypeId} {x y : Operand} {v : Value} {a j k m : Nat} {z : Bool} {xs : List AV} {p r : AV} (ht : OneT P t) (hg : wantB ops n F gd = some true) (hx : oget n F x = some (.v (.pointer (some ⟨blkOf v, a * k + j, none⟩)))) (hy : oget n F y = some r) (i : Nat)
    (hL : L[i]? = some (.row v T k m z xs)) (hm : m ≤ a) (hp : xs[a]? = some p) (hj : Nat.blt j p.cells.length = true) (hu : r.one = true) (kk : Lx P c n ops Q rest (putF d (.v undef) F) (L.set i (.row v T k m false (xs.set a (p.setCell j r))))) :
    Lx P c n ops Q (⟨d, .store t x y, ty, pos, aft, gd⟩ :: rest) F L :=
  Lx.op hg fun H w ac hs hF => by
    obtain ⟨us', hrow, _, _, hm', hno, _⟩ := hs.holds _ (List.mem_of_getElem? hL)
    have hj' : j < p.cells.length := by simpa [Nat.blt_eq] using hj
    obtain ⟨u0, hc0, _⟩ := row_cell hs hL hp (List.getElem?_eq_getElem hj')
    obtain ⟨cap, cur, us, hv, hh, h1, h2, h3, hrel, hcl, hul⟩ := row_at hs hL (by rintro rfl; simp at hp)
    have hk : p.cells.length = k := hcl _ (List.mem_of_getElem? hp)
    have ha : a < xs.length := (List.getElem?_eq_some_iff.1 hp).1
    have hpos : a * k + j < us.length := by
      rw [hul]
      have : (a + 1) * k ≤ xs.length * k := Nat.mul_le_mul_right _ (by omega)
      rw [Nat.succ_mul] at this
      omega
    have hyv := hF.eval hy
    obtain ⟨o1, o2, o3⟩ := hyv.one hu
    have hfro : w.frozen? ⟨blkOf v, a * k + j, none⟩ = false := by simp [World.frozen?, hh]
    have hsc : (p.setCell j r).cells = p.cells.set j r := by
      cases p with
      | agg cs => rfl
      | _ =>
        simp only [AV.cells, List.length_singleton] at hj'
        have : j = 0 := by omega
        subst this
        simp only [AV.setCell, AV.cells, List.set_cons_zero]
        exact o3
    have hscl : p.cells.length = (p.setCell j r).cells.length := by rw [hsc]; simp
    have hsz : cur.size = cap * k := h2
    refine ⟨.skip, w.setCell ⟨blkOf v, a * k + j, none⟩ (ac.eval y), undef, _, H, _, ?_, .inr ⟨rfl, rfl⟩, Cells.le_refl _, ?_, .v _, kk⟩
    · simp [execOp, (hF.eval hx).inv, Instr.storeAt, Instr.sureAddr, storeVar, run_sizeOf' ht.size, o2, storeCells, Addr.add, run_store P w _ (ac.eval y) _ o1, hc0, hfro]
    · have hb : v.ownBlock = some (blkOf v) := by rw [hv]; rfl
      rw [setCell_eq_setRow w (blkOf v) (a * k + j) _ T (0, 0) (ac.eval y) hh]
      have hother : ∀ q, q ≠ blkOf v → (w.setRow (blkOf v) (cur.setIfInBounds (a * k + j) (ac.eval y))).heap[q]? = w.heap[q]? := fun q hq => setRow_other w (blkOf v) q _ hq
      have hsame := setRow_heap w (blkOf v) cur (cur.setIfInBounds (a * k + j) (ac.eval y)) T (0, 0) hh
      refine hs.turn hL ?_ ⟨us.set (a * k + j) (ac.eval y), ⟨by simp [hul], .inr ⟨blkOf v, cap, cur.setIfInBounds (a * k + j) (ac.eval y), ?_, ?_, hsame, by simpa using h1, ?_, by simpa using h2, ?_⟩⟩, ?_, ?_, by simpa using hm', hno, fun h => by cases h⟩ ⟨rfl, rfl, rfl, by simp [World.setRow], fun q _ hq => hother q (fun e => hq (by rw [e]; exact hb.symm))⟩ (.inl rfl) (Nat.le_refl _)
      · intro b o u hu
        by_cases hbb : b = blkOf v
        · subst hbb
          have ho : o < m * k := by
            rcases Nat.lt_or_ge o (m * k) with h | h
            · exact h
            · rw [hno _ hb o h] at hu; cases hu
          have hma : m * k ≤ a * k := Nat.mul_le_mul_right _ hm
          have := hs.hin _ o u hu
          simp only [World.cell?, hh, hsame, Option.isSome_none, Bool.false_eq_true, if_false] at this ⊢
          rw [Array.getElem?_setIfInBounds_ne (by omega)]
          exact this
        · have := hs.hin b o u hu
          simp only [World.cell?, hother b hbb] at this ⊢
          exact this
      · rw [List.length_set]; exact hv
      · exact (Ent.own_ge (hs.holds _ (List.mem_of_getElem? hL)) hb).1
      · rcases hrow.2 with ⟨e, _⟩ | ⟨g', cap', cur', e, _, _, _, c2, _⟩
        · rw [hv] at e; cases e
        · rw [hv] at e; injection e with _ _ e; rw [e]; exact c2
      · rw [List.length_set, ← h3, Array.toList_setIfInBounds, List.take_set]
      · rw [flat_set xs a p j r hcl hp (by omega) hscl hsc]
        exact hrel.set hyv _
      · intro q hq
        rcases List.mem_or_eq_of_mem_set hq with h | h
        · exact hcl q h
        · rw [h, ← hscl]; exact hk

/-! comparisons of structs whose cells are known -/
def exacts : List AV → Option (List Value)
  | [] => some []
  | .v x :: cs => match exacts cs with
    | some us => some (x :: us)
    | none => none
  | _ :: _ => none
theorem RelL.exact : ∀ {cs : List AV} {vs us : List Value}, RelL H cs vs → exacts cs = some us → vs = us
  | _, _, _, .nil, h => by simp only [exacts, Option.some.injEq] at h; exact h
  | _, _, us, .cons (c := a) h t, hh => by
    cases a with
    | v x =>
      simp only [exacts] at hh
      split at hh
      · rename_i us' he
        simp only [Option.some.injEq] at hh
        subst hh
        rw [h.inv, RelL.exact t he]
      · cases hh
    | _ => simp [exacts] at hh
structure EqT (P : Program) (t : TypeId) (x y : Value) (b : Bool) : Prop where
  out : ∀ w, (binOp .eql t x y).run P w = .ok (.bool b) w
  guard : ∀ op' o1 o2 w, (eqGuard op' t o1 o2 x y).run P w = .ok () w
  out' : ∀ w, (binOp .neq t x y).run P w = .ok (.bool (!b)) w
theorem Gr.eqlS {t t' : TypeId} {x y : Operand} {cs ds : List AV} {us vs : List Value} {b : Bool} (hx : oget n F x = some (.agg cs)) (hy : oget n F y = some (.agg ds)) (hc : exacts cs = some us) (hd : exacts ds = some vs) (h : EqT P t (.agg us.toArray) (.agg vs.toArray) b) : Gr P c n (.binOp .eql t x y t') ty F L (B b) :=
  .pure fun H w ρ _ hr d pos aft g => by
    obtain ⟨u1, e1, r1⟩ := (hr x (by simp [Op.operands]) _ hx).inv_agg
    obtain ⟨u2, e2, r2⟩ := (hr y (by simp [Op.operands]) _ hy).inv_agg
    rw [r1.exact hc] at e1
    rw [r2.exact hd] at e2
    exact ⟨.bool b, by simp [execOp, e1, e2, h.guard _ _ _ w, h.out w], .v _⟩
theorem Gr.neqS {t t' : TypeId} {x y : Operand} {cs ds : List AV} {us vs : List Value} {b : Bool} (hx : oget n F x = some (.agg cs)) (hy : oget n F y = some (.agg ds)) (hc : exacts cs = some us) (hd : exacts ds = some vs) (h : EqT P t (.agg us.toArray) (.agg vs.toArray) b) : Gr P c n (.binOp .neq t x y t') ty F L (B (!b)) :=
  .pure fun H w ρ _ hr d pos aft g => by
    obtain ⟨u1, e1, r1⟩ := (hr x (by simp [Op.operands]) _ hx).inv_agg
    obtain ⟨u2, e2, r2⟩ := (hr y (by simp [Op.operands]) _ hy).inv_agg
    rw [r1.exact hc] at e1
    rw [r2.exact hd] at e2
    exact ⟨.bool (!b), by simp [execOp, e1, e2, h.guard _ _ _ w, h.out' w], .v _⟩
end
end Go.E2
