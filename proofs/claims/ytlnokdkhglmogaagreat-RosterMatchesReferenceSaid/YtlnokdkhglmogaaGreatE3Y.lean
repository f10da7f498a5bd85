/-
  The engine, part Y: the operations that turn the heap, calls, regions of open order, ghost steps: rules that the walker tries.
  Conditions: none beyond the premises of each rule.
-/
import Derived.Test.YtlnokdkhglmogaaGreatE3V
namespace Go.E2
open Go.RowKit
section
variable {P : Program} {T : Tr} {c : Ctx} {n : Cfg} {ops : Array Oper} {F : Fr} {L : List Ent} {K : Fr → List Ent → Prop} [hT : TabOK P T]
variable {d : Option Tmp} {ty : TypeId} {pos : String} {aft : Array Edge} {rest : List Oper}
/-! stores -/
theorem LK.st1 {t U : TypeId} {x y : Operand} {g off : Nat} {cs : List AV} {r : AV} {td : TD} (i : Nat) (hd : T.get t = some td) (hL : L[i]? = some (.blk g U false cs)) (hx : oget n F x = some (.v (.pointer (some ⟨g, off, none⟩)))) (hy : oget n F y = some r)
    (h1 : (match td with | .no => false | .st _ _ _ => false | .arr _ _ _ _ => false | _ => true) = true) (ho : Nat.blt off cs.length = true) (hu : r.one = true) (k : force (cs.set off r) fun cs' => putK d (.v undef) F fun F => wpl P T c n ops K rest F (L.set i (.blk g U false cs'))) :
    LK P T c n ops K (⟨d, .store t x y, ty, pos, aft, none⟩ :: rest) F L :=
  ⟨fun Q hQ => Lx.st1 (load_one hd (by rintro rfl; cases h1) (by rintro _ _ _ rfl; cases h1) (by rintro _ _ _ _ rfl; cases h1)) rfl hx hy i hL ho hu ((wpl_out (putK_out (force_out k))).out Q hQ)⟩
theorem LK.stA {t U : TypeId} {kk : Nat} {x y : Operand} {g off : Nat} {cs vs : List AV} {td : TD} (i : Nat) (hd : T.get t = some td) (hL : L[i]? = some (.blk g U false cs)) (hx : oget n F x = some (.v (.pointer (some ⟨g, off, none⟩)))) (hy : oget n F y = some (.agg vs))
    (h1 : (match td with | .st k _ _ => some k | .arr l _ k _ => some (Nat.mul l k) | _ => none) = some kk) (hl : Nat.beq vs.length kk = true) (hl' : Nat.ble (off + kk) cs.length = true) (hu : vs.all AV.one = true) (k : force (cs.take off ++ vs ++ cs.drop (off + kk)) fun cs' => putK d (.v undef) F fun F => wpl P T c n ops K rest F (L.set i (.blk g U false cs'))) :
    LK P T c n ops K (⟨d, .store t x y, ty, pos, aft, none⟩ :: rest) F L := by
  have ha : AggT P t kk := by
    cases td with
    | st k' fs zs => simp only [Option.some.injEq] at h1; subst h1; exact (tab_st hT hd).1
    | arr l e k' zs => simp only [Option.some.injEq] at h1; subst h1; exact (tab_arr hT hd).2.1
    | _ => cases h1
  exact ⟨fun Q hQ => Lx.stA ha rfl hx hy i hL hl hl' hu ((wpl_out (putK_out (force_out k))).out Q hQ)⟩
theorem LK.stR {t U : TypeId} {x y : Operand} {v : Value} {a j k m : Nat} {z : Bool} {xs : List AV} {p r : AV} {td : TD} (i : Nat) (hd : T.get t = some td) (hL : L[i]? = some (.row v U k m z xs)) (hx : oget n F x = some (.v (.pointer (some ⟨blkOf v, a * k + j, none⟩)))) (hy : oget n F y = some r)
    (h1 : (match td with | .no => false | .st _ _ _ => false | .arr _ _ _ _ => false | _ => true) = true) (hm : m ≤ a) (hp : xs[a]? = some p) (hj : Nat.blt j p.cells.length = true) (hu : r.one = true) (kk : putK d (.v undef) F fun F => wpl P T c n ops K rest F (L.set i (.row v U k m false (xs.set a (p.setCell j r))))) :
    LK P T c n ops K (⟨d, .store t x y, ty, pos, aft, none⟩ :: rest) F L :=
  ⟨fun Q hQ => Lx.stR (load_one hd (by rintro rfl; cases h1) (by rintro _ _ _ rfl; cases h1) (by rintro _ _ _ _ rfl; cases h1)) rfl hx hy i hL hm hp hj hu ((wpl_out (putK_out kk)).out Q hQ)⟩
/-! append -/
theorem LK.app {t e : TypeId} {size bytes m : Nat} {z : Bool} {s x : Operand} {v : Value} {a : AV} {xs ys : List AV} (i : Nat) (hd : T.get t = some (.sl e size bytes)) (hL : L[i]? = some (.row v e size m z xs)) (hs : oget n F s = some (.v v)) (hx : oget n F x = some a)
    (hz : (Nat.blt 0 size && Nat.blt 0 bytes) = true) (hsb : Sb L a (.sl size ys)) (h1 : (ys.flatMap AV.cells).all AV.one = true) (hb : (xs.length + ys.length) * bytes ≤ 140737488355328)
    (k : ∀ v', putK d (.v v') F fun F => wpl P T c n ops K rest F (L.set i (.row v' e size m false (xs ++ ys)))) :
    LK P T c n ops K (⟨d, .call ⟨.builtin .append, #[s, x], #[t, t]⟩, ty, pos, aft, none⟩ :: rest) F L := by
  simp only [Bool.and_eq_true, Nat.blt_eq] at hz
  exact ⟨fun Q hQ => Lx.append ((tab_sl hT hd).2.2 hz.1 hz.2) rfl hs hx i hL hsb h1 hb fun v' => (wpl_out (putK_out (k v'))).out Q hQ⟩
/-! slice literals whose places are all given -/
def lit (k : Nat) : Nat → List (Nat × AV) → Option (List AV)
  | _, [] => some []
  | i, (j, a) :: l => match Nat.beq i j && (a.ok && Nat.beq a.cells.length k) with
    | true => match lit k (i + 1) l with
      | some xs => some (a :: xs)
      | none => none
    | false => none
theorem lit_spec {k : Nat} : ∀ {l : List (Nat × AV)} {i : Nat} {xs : List AV}, lit k i l = some xs → xs.length = l.length ∧ (∀ x ∈ xs, x.cells.length = k) ∧
    ∀ (ps qs : List AV), ps.length = i * k → qs.length = l.length * k → fillA (fun i => some (i * k, k)) (ps ++ qs) l = some (ps ++ xs.flatMap AV.cells)
  | [], i, xs, h => by
    simp only [lit, Option.some.injEq] at h
    subst h
    refine ⟨rfl, by simp, fun ps qs _ hq => ?_⟩
    have : qs = [] := List.eq_nil_of_length_eq_zero (by simpa using hq)
    subst this
    simp [fillA]
  | (j, a) :: l, i, xs, h => by
    simp only [lit] at h
    split at h
    · rename_i hc
      simp only [Bool.and_eq_true] at hc
      obtain ⟨h1, h2, h3⟩ := hc
      have h1 := Nat.eq_of_beq_eq_true h1
      have h3' := Nat.eq_of_beq_eq_true h3
      subst h1
      split at h
      · rename_i xs' e
        simp only [Option.some.injEq] at h
        subst h
        obtain ⟨g1, g2, g3⟩ := lit_spec e
        refine ⟨by simp [g1], ?_, fun ps qs hp hq => ?_⟩
        · intro x hx
          rcases List.mem_cons.1 hx with rfl | hx
          · exact h3'
          · exact g2 x hx
        · simp only [fillA]
          have hq' : qs.length = k + l.length * k := by rw [hq, List.length_cons, Nat.succ_mul]; omega
          have hle : (a.ok && (Nat.beq a.cells.length k && Nat.ble (i * k + k) (ps ++ qs).length)) = true := by
            simp only [Bool.and_eq_true]
            exact ⟨h2, h3, by rw [Nat.ble_eq, List.length_append]; omega⟩
          rw [hle]
          simp only
          have e1 : (ps ++ qs).take (i * k) = ps := by rw [← hp]; simp
          have e2 : (ps ++ qs).drop (i * k + k) = qs.drop k := by rw [← hp, ← List.drop_drop]; simp
          rw [e1, e2]
          have := g3 (ps ++ a.cells) (qs.drop k) (by rw [List.length_append, h3', hp, Nat.succ_mul]) (by rw [List.length_drop, hq']; omega)
          rw [this, List.flatMap_cons, List.append_assoc]
      · cases h
    · cases h
theorem bsl_of {t e len k bytes : Nat} {ps : List (Nat × AV)} {xs : List AV} (hd : T.get t = some (.sl e k bytes)) (hk : (Nat.blt 0 k && Nat.beq ps.length len && Nat.ble (len * k) 16777216) = true) (hl : lit k 0 ps = some xs) (hz : ∃ z, (P.info? e).bind (·.zero) = some z) : BslT P t e len k ps xs := by
  simp only [Bool.and_eq_true, Nat.blt_eq, Nat.ble_eq] at hk
  obtain ⟨⟨k1, k2⟩, k3⟩ := hk
  have k2 := Nat.eq_of_beq_eq_true k2
  obtain ⟨g1, g2, g3⟩ := lit_spec hl
  have hs := (tab_sl hT hd).1
  obtain ⟨z, hz⟩ := hz
  refine ⟨hs.und, hs.size, k1, by omega, k3, g2, z, hz, ?_⟩
  have := g3 [] ((((Array.range (len * k)).map (z.cells[· % z.cells.size]!)).toList.map AV.v)) (by simp) (by simp [k2])
  simpa using this
theorem sl_zero {t e k bytes : Nat} (hd : T.get t = some (.sl e k bytes)) : ∃ z, (P.info? e).bind (·.zero) = some z := by
  have := hT.td hd
  simp only [tdB, Bool.and_eq_true] at this
  obtain ⟨⟨_, _⟩, h4⟩ := this
  split at h4
  · rename_i i ei
    simp only [Bool.and_eq_true] at h4
    obtain ⟨_, h6⟩ := h4
    split at h6
    · rename_i z ez; exact ⟨z, by rw [ei]; simp [ez]⟩
    · cases h6
  · cases h4
theorem LK.bsl {t e len k bytes : Nat} {xs : Array (Nat × Operand)} {ps : List (Nat × AV)} {es : List AV} (hd : T.get t = some (.sl e k bytes)) (hv : ogetp n F xs.toList = some ps) (hk : (Nat.blt 0 k && Nat.beq ps.length len && Nat.ble (len * k) 16777216) = true) (hl : lit k 0 ps = some es)
    (kk : force es fun es => ∀ v, putK d (.v v) F fun F => wpl P T c n ops K rest F (.row v e k 0 false es :: L)) : LK P T c n ops K (⟨d, .buildSlice t len xs, ty, pos, aft, none⟩ :: rest) F L :=
  ⟨fun Q hQ => by
    have := Lx.buildSlice (P := P) (c := c) (n := n) (ops := ops) (Q := Q) (F := F) (L := L) (ty := ty) (d := d) (pos := pos) (aft := aft) (gd := none) (rest := rest) rfl hv (bsl_of hd hk hl (sl_zero hd)) fun v => (wpl_out (putK_out (force_out kk v))).out Q hQ
    rwa [Array.toArray_toList] at this⟩
/-- a slice literal that nobody writes to -/
theorem Gr.bslV {t e len k bytes : Nat} {xs : Array (Nat × Operand)} {ps : List (Nat × AV)} {es : List AV} (hd : T.get t = some (.sl e k bytes)) (hv : ogetp n F xs.toList = some ps) (hk : (Nat.blt 0 k && Nat.beq ps.length len && Nat.ble (len * k) 16777216) = true) (hl : lit k 0 ps = some es) : Gr P c n (.buildSlice t len xs) ty F L (.sl k es) := by
  have := Gr.bsl (P := P) (c := c) (n := n) (F := F) (L := L) (ty := ty) hv (bsl_of hd hk hl (sl_zero hd))
  rwa [Array.toArray_toList] at this
/-! whatever an operation leaves -/
theorem LK.gr {o : Op} {r : AV} (h : Gr P c n o ty F L r) (k : putK d r F fun F => wpl P T c n ops K rest F L) : LK P T c n ops K (⟨d, o, ty, pos, aft, none⟩ :: rest) F L := ⟨fun Q hQ => Lx.gr rfl h ((wpl_out (putK_out k)).out Q hQ)⟩
theorem LK.ask {o : Op} (h : Ask P c n true o ty F L fun r => putK d r F fun F => wpl P T c n ops K rest F L) : LK P T c n ops K (⟨d, o, ty, pos, aft, none⟩ :: rest) F L :=
  let ⟨_, h1, h2⟩ := h.out; LK.gr (h1 rfl) h2
theorem LK.askW {o : Op} {g : Nat × Bool} {w : Bool} (hw : wantB ops n F (some g) = some w) (h : imps w F o.operands.toList fun G => Ask P c n w o ty G L fun r => putK d (.opt w r) F fun F => wpl P T c n ops K rest F L) : LK P T c n ops K (⟨d, o, ty, pos, aft, some g⟩ :: rest) F L := by
  obtain ⟨h1, h2⟩ := imps_out h
  obtain ⟨r, h3, h4⟩ := h2.out
  exact ⟨fun Q hQ => Lx.grW hw (fun e => (h3 e).opn (h1 e)) ((wpl_out (putK_out h4)).out Q hQ)⟩
theorem LK.skip {o : Op} {g : Nat × Bool} (hw : wantB ops n F (some g) = some false) (k : putK d (.v undef) F fun F => wpl P T c n ops K rest F L) : LK P T c n ops K (⟨d, o, ty, pos, aft, some g⟩ :: rest) F L := ⟨fun Q hQ => Lx.skip hw ((wpl_out (putK_out k)).out Q hQ)⟩
/-! calls -/
theorem LK.call {f : FuncId} {x : Operand} {xs : List Operand} {as1 as2 : List AV} {ts : Array TypeId} {Φ : AV → List Ent → Prop} (hf : EntersT P f) (hc : FnE P f as2 Φ) (hx : oget n F x = some (.v (.func (.func f) #[] #[]))) (hv : ogets n F xs = some as1) (hsb : SbL L as1 as2)
    (k : ∀ a E, Φ a E → putK d a F fun F => wpl P T c n ops K rest F (E ++ L)) : LK P T c n ops K (⟨d, .call ⟨.value x, xs.toArray, ts⟩, ty, pos, aft, none⟩ :: rest) F L :=
  ⟨fun Q hQ => Lx.call hf rfl hx hv hsb hc fun a E hp => (wpl_out (putK_out (k a E hp))).out Q hQ⟩
theorem LK.callA {f : FuncId} {x : Operand} {xs : List Operand} {as1 as2 : List AV} {ts : Array TypeId} {r : AV} (hf : EntersT P f) (hc : FnA P f as2 r) (hx : oget n F x = some (.v (.func (.func f) #[] #[]))) (hv : ogets n F xs = some as1) (hsb : SbL L as1 as2)
    (k : putK d r F fun F => wpl P T c n ops K rest F L) : LK P T c n ops K (⟨d, .call ⟨.value x, xs.toArray, ts⟩, ty, pos, aft, none⟩ :: rest) F L := LK.gr (Gr.call hf hx hv hsb hc) k
theorem LK.callC {f : FuncId} {x : Operand} {xs : List Operand} {a : AV} {as1 as2 caps : List AV} {ts : Array TypeId} {r : AV} (hf : EntersT P f) (hx : oget n F x = some a) (hsx : Sb L a (.fn (.func f) caps)) (hv : ogets n F xs = some as1) (hsb : SbL L as1 as2) (hc : FnA P f (as2 ++ caps) r)
    (k : putK d r F fun F => wpl P T c n ops K rest F L) : LK P T c n ops K (⟨d, .call ⟨.value x, xs.toArray, ts⟩, ty, pos, aft, none⟩ :: rest) F L := LK.gr (Gr.callC hf hx hsx hv hsb hc) k
theorem Ask.callA {w : Bool} {f : FuncId} {x : Operand} {xs : List Operand} {as1 as2 : List AV} {ts : Array TypeId} {r : AV} {k : AV → Prop} (hf : EntersT P f) (hc : w = true → FnA P f as2 r) (hx : oget n F x = some (.v (.func (.func f) #[] #[]))) (hv : ogets n F xs = some as1) (hsb : SbL L as1 as2)
    (hk : k r) : Ask P c n w (.call ⟨.value x, xs.toArray, ts⟩) ty F L k := ⟨r, fun e => Gr.call hf hx hv hsb (hc e), hk⟩
end
section
variable {P : Program} {T : Tr} {c : Ctx} {n : Cfg} {ops : Array Oper} {F : Fr} {L : List Ent} {K : Fr → List Ent → Prop}
/-! ghost steps -/
/-- parting on a guard -/
theorem LK.split {l : List Oper} (s : Nat) {b : Bool} (hv : look F s = some (.v (.bool b))) (ht : b = true → LK P T c n ops K l ((s, .v (.bool true)) :: F) L) (hf : b = false → LK P T c n ops K l ((s, .v (.bool false)) :: F) L) : LK P T c n ops K l F L :=
  ⟨fun Q hQ => Lx.split s hv (fun e => (ht e).out Q hQ) (fun e => (hf e).out Q hQ)⟩
theorem LK.see {l : List Oper} (s : Nat) {a b : AV} (h : look F s = some a) (hs : Sb L a b) (k : LK P T c n ops K l ((s, b) :: F) L) : LK P T c n ops K l F L := ⟨fun Q hQ => Lx.see s h hs (k.out Q hQ)⟩
theorem LK.frzR {l : List Oper} (i : Nat) {v : Value} {t : TypeId} {size m : Nat} {z : Bool} {xs : List AV} (hL : L[i]? = some (.row v t size m z xs)) (k : LK P T c n ops K l F (L.set i (.row v t size xs.length true xs))) : LK P T c n ops K l F L := ⟨fun Q hQ => Lx.frzR i hL (k.out Q hQ)⟩
theorem LK.frzB {l : List Oper} (i : Nat) {g : Nat} {t : TypeId} {z : Bool} {cs : List AV} (hL : L[i]? = some (.blk g t z cs)) (k : LK P T c n ops K l F (L.set i (.blk g t true cs))) : LK P T c n ops K l F L := ⟨fun Q hQ => Lx.frzB i hL (k.out Q hQ)⟩
theorem LK.nilrow {l : List Oper} (t : TypeId) (size : Nat) (k : LK P T c n ops K l F (.row (.slice none 0 0) t size 0 false [] :: L)) : LK P T c n ops K l F L := ⟨fun Q hQ => Lx.nilrow t size (k.out Q hQ)⟩
theorem LK.sub {l : List Oper} {L' : List Ent} (hs : L'.Sublist L) (k : LK P T c n ops K l F L') : LK P T c n ops K l F L := ⟨fun Q hQ => Lx.sub hs (k.out Q hQ)⟩
end
section
variable {P : Program} {T : Tr} {c : Ctx} {m : Nat} {ro : Option Nat} {x : Code} {K : KT} {ds : List Deferred} {F : Fr} {L : List Ent}
theorem CK.see (s : Nat) {a b : AV} (h : look F s = some a) (hs : Sb L a b) (k : CK P T c m ro x K ds ((s, b) :: F) L) : CK P T c m ro x K ds F L := ⟨fun Q hQ => Cx.see s h hs (k.out Q hQ)⟩
theorem CK.frzR (i : Nat) {v : Value} {t : TypeId} {size q : Nat} {z : Bool} {xs : List AV} (hL : L[i]? = some (.row v t size q z xs)) (k : CK P T c m ro x K ds F (L.set i (.row v t size xs.length true xs))) : CK P T c m ro x K ds F L := ⟨fun Q hQ => Cx.frzR i hL (k.out Q hQ)⟩
theorem CK.frzB (i : Nat) {g : Nat} {t : TypeId} {z : Bool} {cs : List AV} (hL : L[i]? = some (.blk g t z cs)) (k : CK P T c m ro x K ds F (L.set i (.blk g t true cs))) : CK P T c m ro x K ds F L := ⟨fun Q hQ => Cx.frzB i hL (k.out Q hQ)⟩
/-- a row of the call's own is frozen, once -/
theorem CK.frzR1 (i : Nat) {v : Value} {t : TypeId} {size q : Nat} {xs : List AV} (hL : L[i]? = some (.row v t size q false xs)) (k : CK P T c m ro x K ds F (L.set i (.row v t size xs.length true xs))) : CK P T c m ro x K ds F L := CK.frzR i hL k
/-- slot s, a frozen row, seen by value, once -/
theorem CK.seeR (s i : Nat) {v : Value} {t : TypeId} {size q : Nat} {xs : List AV} (h : look F s = some (.v v)) (hL : L[i]? = some (.row v t size q true xs)) (k : CK P T c m ro x K ds ((s, .sl size xs) :: F) L) : CK P T c m ro x K ds F L := CK.see s h (Sb.row i hL) k
theorem CK.nilrow (t : TypeId) (size : Nat) (k : CK P T c m ro x K ds F (.row (.slice none 0 0) t size 0 false [] :: L)) : CK P T c m ro x K ds F L := ⟨fun Q hQ => Cx.nilrow t size (k.out Q hQ)⟩
theorem CK.weak (G : Fr) {L' : List Ent} (hG : Says F G) (hL : L'.Sublist L) (k : CK P T c m ro x K ds G L') : CK P T c m ro x K ds F L := ⟨fun Q hQ => Cx.weak G hG hL (k.out Q hQ)⟩
theorem CK.perm {L' : List Ent} (hp : L.Perm L') (k : CK P T c m ro x K ds F L') : CK P T c m ro x K ds F L := ⟨fun Q hQ => Cx.perm hp (k.out Q hQ)⟩
/-! regions of open order -/
def growB (lits : Bool) (o : Oper) : Bool := isPure o.op || (match o.op with
  | .call ⟨.builtin _, _, _⟩ => false
  | .call _ => true
  | .buildSlice _ _ _ => lits
  | _ => false)
def tailP (lits : Bool) : List Oper → Nat
  | [] => 0
  | o :: l => cond (growB lits o) (tailP lits l + 1) 0
def anyB (ops : Array Oper) (p : Nat) : Bool := Nat.ble p ops.toList.length && (ops.toList.all fun o => noDef o.op) && lexTo ops p p 0 (lst 0 ops.toList.length) && (Nat.beq p ops.toList.length || tailB ops p ops.toList.length) && chainB ops (ops.toList.length - p) p (lst p ops.toList.length)
theorem CK.any [hT : TabOK P T] {id : Nat} {ops : Array Oper} (lits : Bool) (hB : anyB ops (tailP lits ops.toList) = true)
    (h : wpo P T c ⟨m, ds, ro⟩ ops L (fun F => wpl P T c ⟨m, ds, ro⟩ ops (fun F L => K ds .normal F L) (ops.toList.drop (tailP lits ops.toList)) F L) (ops.toList.take (tailP lits ops.toList)) F) : CK P T c m ro (.region id ops true) K ds F L := by
  simp only [anyB, Bool.and_eq_true] at hB
  obtain ⟨⟨⟨⟨h1, h2⟩, h3⟩, h4⟩, h5⟩ := hB
  refine ⟨fun Q hQ => ?_⟩
  obtain ⟨F', h6, h7⟩ := wpo_out h
  have e : ops.toList.toArray = ops := Array.toArray_toList
  have := Cx.any (P := P) (c := c) (n := ⟨m, ds, ro⟩) (Q := Q) (F := F) (L := L) (id := id) (l := ops.toList) (tailP lits ops.toList) hT.fol rfl h1 h2 (by rw [e]; exact h3) (by rw [e]; exact h4) (by rw [e]; exact h5) (by
    rw [e]
    exact ⟨F', h6, (wpl_out h7).out Q fun F L hk => hQ _ _ _ _ hk⟩)
  rwa [e] at this
/-! the end of a round -/
theorem Nxt.of {σ : Type} {p : σ → Prop} {I : σ → Fr} {J : σ → List Ent} {μ : σ → Nat} {s : σ} {F0 : Fr} (s' : σ) (ms : List Nat) (hd : F.drop (F.length - F0.length) = F0) (hA : ((F.take (F.length - F0.length)).all fun q => ms.contains q.1) = true) (hG : (F0.all fun q => !ms.contains q.1) = true)
    (hp : p s') (hμ : μ s' < μ s) (hI : Says F (I s')) (hL : (J s').Sublist L) : Nxt ds ds F0 p I J μ s F L :=
  .mk rfl ⟨s', hp, hμ, fun t y ht => by
    rw [look_append] at ht
    cases hI' : look (I s') t with
    | some z => rw [hI'] at ht; simp only [Option.some_or, Option.some.injEq] at ht; subst ht; exact hI t _ hI'
    | none =>
      rw [hI'] at ht
      simp only [Option.none_or] at ht
      have h1 := says_next hA hG t y ht
      have h2 := List.take_append_drop (F.length - F0.length) F
      rw [hd] at h2
      rwa [h2] at h1, hL⟩
end
end Go.E2
