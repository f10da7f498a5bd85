/-
  The engine, part Z: what one operation does to the heap, for regions in order and of open order alike.
  Conditions: none beyond the premises of each rule.
-/
import Derived.Test.YtlnokdkhglmogaaGreatE3Q
import Derived.Lib.SliceRun
namespace Go.E2
open Go.RowKit
structure Eff (P : Program) (c : Ctx) (n : Cfg) (ops : Array Oper) (o : Oper) (F : Fr) (L : List Ent) (R : AV → List Ent → Prop) : Prop where
  out : ∀ G Q, (∀ d, d ∈ o.looksAt ops → look F d = look G d) → (∀ r L', R r L' → Lx P c n ops Q [] (putF o.dst r G) L') → Lx P c n ops Q [o] G L
section
variable {P : Program} {T : Tr} {c : Ctx} {n : Cfg} {ops : Array Oper} {F G : Fr} {L : List Ent} {R : AV → List Ent → Prop}
variable {d : Option Tmp} {ty : TypeId} {pos : String} {aft : Array Edge}
theorem lx_cons {o : Oper} {rest : List Oper} {Q : Exit → Act → World → Prop} (h : Lx P c n ops (fun e a w => match e with | .normal => wpList P ops (OnlyN Q) rest a w | _ => False) [o] F L) : Lx P c n ops Q (o :: rest) F L :=
  ⟨fun H w a hs hF => by
    have h1 := h.out H w a hs hF
    unfold wpList at h1 ⊢
    split at h1
    · rename_i hw
      rw [if_pos hw]
      exact h1.imp (wp_only fun a w h => by unfold wpList at h; exact h) (fun h => ⟨h.1, lets_only h.2⟩)
    · rename_i hw
      rw [if_neg hw]
      unfold wpList at h1
      exact h1⟩
theorem LK.eff [TabOK P T] {K : Fr → List Ent → Prop} {o : Op} {g : Option (Nat × Bool)} {rest : List Oper} (h : Eff P c n ops ⟨d, o, ty, pos, aft, g⟩ F L R) (k : ∀ r L', R r L' → putK d r F fun F => wpl P T c n ops K rest F L') : LK P T c n ops K (⟨d, o, ty, pos, aft, g⟩ :: rest) F L :=
  ⟨fun Q hQ => lx_cons (h.out F _ (fun _ _ => rfl) fun r L' hr => ⟨fun H w a hs hF => by
    unfold wpList
    exact ((wpl_out (putK_out (k r L' hr))).out Q hQ).out H w a hs hF⟩)⟩
theorem Kx.eff {K : Fr → List Ent → Prop} {L0 : List Ent} {i : Nat} {is : List Nat} {o : Op} {g : Option (Nat × Bool)} (ho : ops[i]? = some ⟨d, o, ty, pos, aft, g⟩) (h : Eff P c n ops ⟨d, o, ty, pos, aft, g⟩ F L R) (hl : ∀ r L', R r L' → L0.Sublist L') (k : ∀ r L', R r L' → putK d r F fun F => Kx P c n ops L0 K is F L') : Kx P c n ops L0 K (i :: is) F L :=
  .cons ho R h.out hl fun r L' hr => putK_out (k r L' hr)
theorem Kx.yld {K : Fr → List Ent → Prop} {L0 : List Ent} {i : Nat} {is : List Nat} {o : Oper} {r : AV} (ho : ops[i]? = some o) (hsub : L0.Sublist L) (h : YieldsA P c n L ops o F r) (k : Kx P c n ops L0 K is (putF o.dst r F) L) : Kx P c n ops L0 K (i :: is) F L :=
  .cons ho (fun r' L' => r' = r ∧ L' = L) (fun _ _ hag hk => Lx.yld (h.congr hag) (hk r L ⟨rfl, rfl⟩)) (fun _ _ e => by rw [e.2]; exact hsub) (fun _ _ e => by obtain ⟨rfl, rfl⟩ := e; exact k)
theorem Kx.stp [TabOK P T] {K : Fr → List Ent → Prop} {L0 : List Ent} {i : Nat} {is : List Nat} {o : Op} {g : Option (Nat × Bool)} (ho : ops[i]? = some ⟨d, o, ty, pos, aft, g⟩) (hp : isPure o = true) (hsub : L0.Sublist L) (h : E2.stp P T c n ops o ty g F L fun r => putK d r F fun F => Kx P c n ops L0 K is F L) : Kx P c n ops L0 K (i :: is) F L := by
  have _ := hp
  obtain ⟨r, h1, h2⟩ := stp_out (o := ⟨d, o, ty, pos, aft, g⟩) h
  exact Kx.yld ho hsub h1 (putK_out h2)
theorem Kx.grQ {K : Fr → List Ent → Prop} {L0 : List Ent} {i : Nat} {is : List Nat} {o : Op} {r : AV} (ho : ops[i]? = some ⟨d, o, ty, pos, aft, none⟩) (hsub : L0.Sublist L) (h : Gr P c n o ty F L r) (k : putK d r F fun F => Kx P c n ops L0 K is F L) : Kx P c n ops L0 K (i :: is) F L := Kx.gr ho hsub h (putK_out k)
theorem Kx.frzB {K : Fr → List Ent → Prop} {L0 : List Ent} {i : Nat} {is : List Nat} (j : Nat) {g : Nat} {t : TypeId} {z : Bool} {cs : List AV} (hL : L[j]? = some (.blk g t z cs)) (k : Kx P c n ops L0 K (i :: is) F (L.set j (.blk g t true cs))) : Kx P c n ops L0 K (i :: is) F L := by
  cases k with
  | cons ho R hs hl hk => exact .cons ho R (fun G Q h1 h2 => Lx.frzB j hL (hs G Q h1 h2)) hl hk
/-! the rules -/
theorem ogetp_look {xs : List (Nat × Operand)} (h : ∀ p ∈ xs, oget n F p.2 = oget n G p.2) : ogetp n F xs = ogetp n G xs := by
  induction xs with
  | nil => rfl
  | cons p xs ih =>
    obtain ⟨i, x⟩ := p
    simp only [ogetp]
    rw [h (i, x) (by simp), ih fun y hy => h y (by simp [hy])]
theorem Eff.call {f : FuncId} {x : Operand} {xs : List Operand} {as1 as2 : List AV} {ts : Array TypeId} {Φ : AV → List Ent → Prop} (hf : EntersT P f) (hc : FnE P f as2 Φ) (hx : oget n F x = some (.v (.func (.func f) #[] #[]))) (hv : ogets n F xs = some as1) (hsb : SbL L as1 as2) :
    Eff P c n ops ⟨d, .call ⟨.value x, xs.toArray, ts⟩, ty, pos, aft, none⟩ F L fun r L' => ∃ E, Φ r E ∧ L' = E ++ L :=
  ⟨fun _ _ hag hk => Lx.call hf rfl (by rw [← look_op hag (by simp [Op.operands, Call.operands])]; exact hx) (by rw [← ogets_look fun y hy => look_op hag (by simp [Op.operands, Call.operands, hy])]; exact hv) hsb hc fun a E h => hk a _ ⟨E, h, rfl⟩⟩
section
variable [hT : TabOK P T]
theorem Eff.app {t e : TypeId} {size bytes q : Nat} {z : Bool} {s x : Operand} {v : Value} {a : AV} {xs ys : List AV} (j : Nat) (hd : T.get t = some (.sl e size bytes)) (hL : L[j]? = some (.row v e size q z xs)) (hs : oget n F s = some (.v v)) (hx : oget n F x = some a)
    (hz : (Nat.blt 0 size && Nat.blt 0 bytes) = true) (hsb : Sb L a (.sl size ys)) (h1 : (ys.flatMap AV.cells).all AV.one = true) (hb : (xs.length + ys.length) * bytes ≤ 140737488355328) :
    Eff P c n ops ⟨d, .call ⟨.builtin .append, #[s, x], #[t, t]⟩, ty, pos, aft, none⟩ F L fun r L' => ∃ v', r = .v v' ∧ L' = L.set j (.row v' e size q false (xs ++ ys)) := by
  simp only [Bool.and_eq_true, Nat.blt_eq] at hz
  exact ⟨fun _ _ hag hk => Lx.append ((tab_sl hT hd).2.2 hz.1 hz.2) rfl (by rw [← look_op hag (by simp [Op.operands, Call.operands])]; exact hs) (by rw [← look_op hag (by simp [Op.operands, Call.operands])]; exact hx) j hL hsb h1 hb fun v' => hk _ _ ⟨v', rfl, rfl⟩⟩
theorem Eff.alloc {t : TypeId} {td : TD} {s : Tmp} (hd : T.get t = some td) (h0 : (match td with | .no => false | _ => true) = true) :
    Eff P c n ops ⟨some s, .alloc t, ty, pos, aft, none⟩ F L fun r L' => ∃ b, r = .v (.pointer (some ⟨b, 0, none⟩)) ∧ L' = .blk b t false ((zsOf td).map .v) :: L :=
  ⟨fun _ _ _ hk => Lx.alloc (tab_zero hT hd (by rintro rfl; cases h0)) rfl fun b => hk _ _ ⟨b, rfl, rfl⟩⟩
theorem Eff.st1 {t U : TypeId} {x y : Operand} {g off : Nat} {cs : List AV} {r : AV} {td : TD} (i : Nat) (hd : T.get t = some td) (h1 : oneK td = true) (hL : L[i]? = some (.blk g U false cs)) (hx : oget n F x = some (.v (.pointer (some ⟨g, off, none⟩)))) (hy : oget n F y = some r) (ho : Nat.blt off cs.length = true) (hu : r.one = true) :
    Eff P c n ops ⟨d, .store t x y, ty, pos, aft, none⟩ F L fun q L' => q = .v undef ∧ L' = L.set i (.blk g U false (cs.set off r)) :=
  ⟨fun _ _ hag hk => Lx.st1 (one_of hd h1) rfl (by rw [← look_op hag (by simp [Op.operands])]; exact hx) (by rw [← look_op hag (by simp [Op.operands])]; exact hy) i hL ho hu (hk _ _ ⟨rfl, rfl⟩)⟩
theorem Eff.stA {t U : TypeId} {x y : Operand} {g off : Nat} {cs vs : List AV} {td : TD} (i : Nat) (hd : T.get t = some td) (h1 : Nat.beq (aggK td) 0 = false) (hL : L[i]? = some (.blk g U false cs)) (hx : oget n F x = some (.v (.pointer (some ⟨g, off, none⟩)))) (hy : oget n F y = some (.agg vs)) (hl : Nat.beq vs.length (aggK td) = true) (hl' : Nat.ble (off + aggK td) cs.length = true) (hu : vs.all AV.one = true) :
    Eff P c n ops ⟨d, .store t x y, ty, pos, aft, none⟩ F L fun q L' => q = .v undef ∧ L' = L.set i (.blk g U false (cs.take off ++ vs ++ cs.drop (off + aggK td))) := by
  have ha : AggT P t (aggK td) := by
    cases td with
    | st k fs zs => exact (tab_st hT hd).1
    | arr l e k zs => exact (tab_arr hT hd).2.1
    | _ => simp [aggK] at h1
  exact ⟨fun _ _ hag hk => Lx.stA ha rfl (by rw [← look_op hag (by simp [Op.operands])]; exact hx) (by rw [← look_op hag (by simp [Op.operands])]; exact hy) i hL hl hl' hu (hk _ _ ⟨rfl, rfl⟩)⟩
theorem Eff.bsl {t e len k bytes : Nat} {xs : Array (Nat × Operand)} {ps : List (Nat × AV)} {es : List AV} (hd : T.get t = some (.sl e k bytes)) (hv : ogetp n F xs.toList = some ps) (hk : (Nat.blt 0 k && Nat.beq ps.length len && Nat.ble (len * k) 16777216) = true) (hl : lit k 0 ps = some es) :
    Eff P c n ops ⟨d, .buildSlice t len xs, ty, pos, aft, none⟩ F L fun r L' => ∃ v, r = .v v ∧ L' = .row v e k 0 false es :: L :=
  ⟨fun G Q hag hk' => by
    have hv' : ogetp n G xs.toList = some ps := by
      rw [← ogetp_look fun p hp => look_op hag (by simp only [Op.operands, List.mem_toArray, List.mem_map]; exact ⟨p, hp, rfl⟩)]
      exact hv
    have := Lx.buildSlice (P := P) (c := c) (n := n) (ops := ops) (Q := Q) (F := G) (L := L) (ty := ty) (d := d) (pos := pos) (aft := aft) (gd := none) (rest := []) rfl hv' (bsl_of hd hk hl (sl_zero hd)) fun v => hk' _ _ ⟨v, rfl, rfl⟩
    rwa [Array.toArray_toList] at this⟩
end
theorem Gr.see {o : Op} {r a b : AV} (s : Nat) (h : look F s = some a) (hs : Sb L a b) (k : Gr P c n o ty ((s, b) :: F) L r) : Gr P c n o ty F L r :=
  ⟨fun H w ρ hst hr d pos aft g => k.out H w ρ hst (fun x hm av hav => by
    cases x with
    | tmp t =>
      simp only [oget] at hav
      split at hav
      · rename_i hlt
        by_cases e : s = t
        · subst e
          rw [look_cons_self] at hav
          cases hav
          exact hs.rel hst (hr (.tmp s) hm a (by simp only [oget]; rw [hlt]; exact h))
        · rw [look_cons_ne _ _ e] at hav
          exact hr (.tmp t) hm av (by simp only [oget]; rw [hlt]; exact hav)
      · cases hav
    | _ => exact hr _ hm av hav) d pos aft g⟩
/-- an operation of a chain that sees slot s as b -/
theorem Kx.stpS [TabOK P T] {K : Fr → List Ent → Prop} {L0 : List Ent} {is : List Nat} {o : Op} {a b : AV} (i s : Nat) (ho : ops[i]? = some ⟨d, o, ty, pos, aft, none⟩) (hsub : L0.Sublist L) (hl : look F s = some a) (hs : Sb L a b) (h : E2.gr P T c n true ((s, b) :: F) L ty o fun r => putK d r F fun F => Kx P c n ops L0 K is F L) : Kx P c n ops L0 K (i :: is) F L := by
  obtain ⟨r, h1, h2⟩ := gr_out h
  exact Kx.gr ho hsub (Gr.see s hl hs (h1 rfl)) (putK_out h2)
theorem AskR.cellA [hT : TabOK P T] {t U : TypeId} {a : Tmp} {g off : Nat} {z : Bool} {cs : List AV} {td : TD} {k : AV → Prop} (i : Nat) (hd : T.get t = some td) (h1 : Nat.beq (aggK td) 0 = false) (hL : L[i]? = some (.blk g U z cs)) (hx : oget n F (.tmp a) = some (.v (.pointer (some ⟨g, off, none⟩)))) (hk : dropK cs off fun ds => takeK ds (aggK td) fun vs => k (.agg vs)) : AskR P c n (.cell a t) F L k := by
  obtain ⟨vs, h1', h2, h⟩ := takeK_out (dropK_out hk)
  have ha : AggT P t (aggK td) := by
    cases td with
    | st k fs zs => exact (tab_st hT hd).1
    | arr l e k zs => exact (tab_arr hT hd).2.1
    | _ => simp [aggK] at h1
  exact ⟨_, Rv.cellA ha hx i hL h1' (by rw [h2]; simp), h⟩
theorem AskR.cell1 [hT : TabOK P T] {t U : TypeId} {a : Tmp} {g off : Nat} {z : Bool} {cs : List AV} {td : TD} {k : AV → Prop} (i : Nat) (hd : T.get t = some td) (h1 : oneK td = true) (hL : L[i]? = some (.blk g U z cs)) (hx : oget n F (.tmp a) = some (.v (.pointer (some ⟨g, off, none⟩)))) (hk : nth cs off k) : AskR P c n (.cell a t) F L k :=
  let ⟨r, e, h⟩ := nth_out hk; ⟨r, Rv.cell1 (one_of hd h1) hx i hL e, h⟩
/-- regions of open order whose operations cs turn the heap one after the other -/
def anyKB (ops : Array Oper) (fs cs : List Nat) : Bool := (ops.toList.all fun o => noDef o.op) && mixB ops ops.toList.length cs && partB ops ops.toList.length fs cs
theorem CK.anyK [hT : TabOK P T] {m : Nat} {ro : Option Nat} {K : KT} {ds : List Deferred} {id : Nat} {ops : Array Oper} (fs cs : List Nat) (L0 : List Ent) (hsub : L0.Sublist L) (hB : anyKB ops fs cs = true)
    (h : wpo P T c ⟨m, ds, ro⟩ ops L0 (fun F => Kx P c ⟨m, ds, ro⟩ ops L0 (fun F L => K ds .normal F L) cs F L) (fs.map fun i => ops.toList.getD i default) F) : CK P T c m ro (.region id ops true) K ds F L := by
  simp only [anyKB, Bool.and_eq_true] at hB
  obtain ⟨⟨h1, h2⟩, h3⟩ := hB
  refine ⟨fun Q hQ => ?_⟩
  obtain ⟨F', h6, h7⟩ := wpo_out h
  have e : ops.toList.toArray = ops := Array.toArray_toList
  have mono : ∀ {cs : List Nat} {F : Fr} {L : List Ent}, Kx P c ⟨m, ds, ro⟩ ops L0 (fun F L => K ds .normal F L) cs F L → Kx P c ⟨m, ds, ro⟩ ops L0 (fun F L' => Lx P c ⟨m, ds, ro⟩ ops Q [] F L') cs F L := fun hk => by
    induction hk with
    | nil h => exact .nil (Lx.nil (hQ _ _ _ _ h))
    | cons ho R hs hl hk ih => exact .cons ho R hs hl ih
  have := Cx.anyK (P := P) (c := c) (n := ⟨m, ds, ro⟩) (Q := Q) (F := F) (L := L) (id := id) (l := ops.toList) fs cs L0 hsub hT.fol rfl h1 (by rw [e]; exact h2) (by rw [e]; exact h3) (by
    rw [e]
    exact ⟨F', h6, mono h7⟩)
  rwa [e] at this
/-! structs compared -/
theorem part_one {t : TypeId} {xs : Array Value} {o : Nat} {a : Value} (h : OneT P t) (hx : xs[o]? = some a) (w : World) : (part t xs o).run P w = .ok a w := by
  simp [part, run_isAgg_f h, hx]
theorem eqf {dd : Nat} {xs ys : Array Value} {f : Field} {fs : List Field} {a b : Value} {r rs : Bool} {w : World} (hn : f.name ≠ "_") (h1 : OneT P f.type) (hx : xs[f.offset]? = some a) (hy : ys[f.offset]? = some b) (hr : (Op.equalIn dd f.type a b).run P w = .ok r w) (ht : (Op.eqFields dd xs ys fs).run P w = .ok rs w) :
    (Op.eqFields dd xs ys (f :: fs)).run P w = .ok (r && rs) w := by
  simp only [Op.eqFields, hn, ne_eq, not_false_eq_true, if_true, Sem.run_bind, part_one h1 hx, part_one h1 hy, hr, Result.andThen_ok]
  cases r <;> simp [ht]
theorem eqI {dd : Nat} {t : TypeId} {k : IntKind} {a b : Int} {w : World} (hT : TabOK P T) (h : T.get t = some (.int k)) : (Op.equalIn (dd + 1) t (.int k a) (.int k b)).run P w = .ok (decide (a = b)) w := by
  rw [run_equalIn_int w dd t k k a b (tab_int hT h).1]; rfl
theorem eqBo {dd : Nat} {t : TypeId} {a b : Bool} {w : World} (hT : TabOK P T) (h : T.get t = some .bool) : (Op.equalIn (dd + 1) t (.bool a) (.bool b)).run P w = .ok (a == b) w := run_equalIn_bool' w dd t a b (tab_bool hT h).1
theorem eqS {dd : Nat} {t : TypeId} {a b : ByteArray} {w : World} (hT : TabOK P T) (h : T.get t = some .str) : (Op.equalIn (dd + 1) t (.string a) (.string b)).run P w = .ok (decide (a = b)) w := by
  rw [run_equalIn_string w dd t a b (tab_str hT h).1, str_eq]
theorem eqT_of {t : TypeId} {xs ys : Array Value} {b : Bool} {fs : Array Field} (hu : P.underlying t = some (.struct fs)) (h1 : P.stoodInHeld t = false) (h2 : P.eqGuardType P.depth t = false) (h : ∀ w, (Op.eqFields 9999 xs ys fs.toList).run P w = .ok b w) : EqT P t (.agg xs) (.agg ys) b := by
  have hf : P.fieldsOf t = fs := by unfold Program.fieldsOf; rw [hu]
  have he : ∀ w, (Op.equalIn 10000 t (.agg xs) (.agg ys)).run P w = .ok b w := fun w => by
    rw [run_equalIn_struct w 9999 t xs ys (by rw [hf]; exact hu) h1, hf]; exact h w
  exact ⟨fun w => by rw [run_eql_struct, he w]; rfl, fun op o1 o2 w => run_eqGuard_agg w op t o1 o2 xs ys h2, fun w => by rw [run_neq_struct, he w]; rfl⟩
/-- a slice compared with nil: what has elements is not nil -/
theorem LK.nilB [TabOK P T] {K : Fr → List Ent → Prop} {rest : List Oper} {t t' e : TypeId} {k b : Nat} {x : Operand} {xs : List AV} (hd : T.get t = some (.sl e k b)) (hx : oget n F x = some (.sl k xs)) (kk : ∀ b : Bool, (xs ≠ [] → b = false) → putK d (B b) F fun F => wpl P T c n ops K rest F L) :
    LK P T c n ops K (⟨d, .binOp .eql t x (.const (.slice none 0 0)) t', ty, pos, aft, none⟩ :: rest) F L :=
  ⟨fun Q hQ => Lx.op rfl fun H w a hs hF => by
    have hr := hF.eval hx
    obtain ⟨A, cap, e1, _, _, g⟩ := hr.inv_sl
    refine ⟨.value (.bool A.isNone), w, .bool A.isNone, B A.isNone, H, L, ?_, .inl rfl, Cells.le_refl _, hs, .v _, (wpl_out (putK_out (kk A.isNone fun hne => ?_))).out Q hQ⟩
    · have e2 : a.eval (.const (.slice none 0 0)) = .slice none 0 0 := rfl
      simp [execOp, e1, e2, eqGuard, Lib.run_eql_slice_nil w t e _ _ _ _ _ (tab_sl inferInstance hd).1.und]
    · obtain ⟨b, off, rfl, _⟩ := g hne
      rfl⟩
end
end Go.E2
