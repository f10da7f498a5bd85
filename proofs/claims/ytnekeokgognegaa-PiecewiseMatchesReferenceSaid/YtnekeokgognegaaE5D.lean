/-
  The engine, texts Q, Z, X, N2, O, W, RP.
  Conditions: none beyond the premises of each rule.
-/
import Derived.Test.YtnekeokgognegaaE5C
import Derived.KernelRfl
import Derived.Lib.SliceRun
import Derived.Maps.RangeRun
import Derived.WideKeyRuns
import Derived.Recover
namespace Go.E2
open Go.RowKit
theorem sh : (∀ (p : Prop) [Decidable p], (decide p = true) = p) ∧ (∀ (p : Prop) [Decidable p], (decide p = false) ↔ ¬ p) ∧ (∀ b : Bool, ((!b) = true) = (b = false)) ∧ (∀ b : Bool, ((!b) = false) = (b = true)) ∧
    (∀ (α : Type) (a b : α), (a ≠ b) = ¬ (a = b)) ∧ (∀ (p : Prop) [Decidable p], ¬¬ p ↔ p) ∧ (∀ a b : Int, (a > b) = (b < a)) ∧ (∀ a b : Int, (a ≥ b) = (b ≤ a)) ∧ (∀ a b : Nat, (a > b) = (b < a)) ∧ (∀ a b : Nat, (a ≥ b) = (b ≤ a)) ∧
    (∀ a b : Int, (¬ a < b) ↔ (b ≤ a)) ∧ (∀ a b : Int, (¬ a ≤ b) ↔ (b < a)) ∧ ((!true) = false) ∧ ((!false) = true) ∧ ((true = false) = False) ∧ ((false = true) = False) ∧
    (∀ (α : Type) [BEq α] [LawfulBEq α] (a b : α), (a == b) = true ↔ a = b) ∧ (∀ (α : Type) [BEq α] [LawfulBEq α] (a b : α), (a != b) = true ↔ a ≠ b) ∧ (∀ (α : Type) [BEq α] [LawfulBEq α] (a b : α), (a == b) = false ↔ a ≠ b) ∧
    (∀ (α : Type) [BEq α] [LawfulBEq α] (a b : α), (a != b) = false ↔ a = b) ∧ (∀ a b : Bool, ((a && b) = true) = (a = true ∧ b = true)) ∧ (∀ a b : Bool, ((a || b) = true) = (a = true ∨ b = true)) ∧
    (∀ a b : Bool, ((a && b) = false) ↔ (a = false ∨ b = false)) ∧ (∀ a b : Bool, ((a || b) = false) ↔ (a = false ∧ b = false)) ∧
    (∀ p : Prop, (p ∨ False) = p) ∧ (∀ p : Prop, (False ∨ p) = p) ∧ (∀ p : Prop, (p ∧ True) = p) ∧ (∀ p : Prop, (True ∧ p) = p) ∧ (¬ False ↔ True) ∧ (¬ True ↔ False) ∧
    (∀ (α β : Type) (f : α → β) (l : List α), (l.map f).length = l.length) ∧ (∀ n : Nat, ((n : Int)).toNat = n) ∧ (∀ n : Nat, ((n : Int) - 1).toNat = n - 1) ∧ (∀ n : Nat, ((n : Int) + 1).toNat = n + 1) := by
  refine ⟨fun p _ => decide_eq_true_eq, fun p _ => decide_eq_false_iff_not, fun b => by simp, fun b => by simp, fun _ _ _ => ne_eq _ _, fun p _ => Decidable.not_not, fun _ _ => rfl, fun _ _ => rfl, fun _ _ => rfl, fun _ _ => rfl,
    fun _ _ => Int.not_lt, fun _ _ => Int.not_le, rfl, rfl, by simp, by simp, fun _ _ _ _ _ => beq_iff_eq, fun _ _ _ _ _ => bne_iff_ne, fun _ _ _ _ _ => beq_eq_false_iff_ne, fun _ _ _ _ _ => bne_eq_false_iff_eq,
    fun _ _ => Bool.and_eq_true _ _, fun _ _ => Bool.or_eq_true _ _, fun _ _ => Bool.and_eq_false_iff, fun _ _ => Bool.or_eq_false_iff, fun _ => or_false _, fun _ => false_or _, fun _ => and_true _, fun _ => true_and _, not_false_iff, by simp, fun _ _ _ _ => List.length_map _, fun _ => Int.toNat_natCast _, fun _ => by omega, fun _ => by omega⟩
theorem Qw {p : Prop} (h : p := by first | (intro h; simp only [sh] at h; omega) | (intro _; omega) | (intro h; simp only [sh] at h <;> fail)) : p := h
theorem Qb {p : Prop} (h : p := by first | exact Sb.refl _ | exact Sb.row 0 rfl | exact Sb.row 1 rfl | exact Sb.row 2 rfl | exact Sb.row 3 rfl | exact Sb.nil | exact Sb.fn0) : p := h
theorem Ql {p : Prop} (h : p := by (repeat (first | exact SbL.nil | exact Sb.refl _ | exact Sb.nil | exact Sb.row 0 rfl | exact Sb.row 1 rfl | exact Sb.row 2 rfl | exact Sb.row 3 rfl | exact Sb.ptr 0 rfl | exact Sb.ptr 1 rfl | exact Sb.ptr 2 rfl | exact Sb.ptr 3 rfl | exact Sb.ptr 4 rfl | exact Sb.fn0 | refine SbL.cons ?_ ?_ | refine Sb.agg ?_ | refine Sb.fn ?_)) <;> fail) : p := h
theorem Qo {p : Prop} (h : p := by first | omega | (simp only [List.length_cons, List.length_nil]; omega) | (simp only [List.length_cons, List.length_nil, List.length_map, List.length_append]; omega)) : p := h
theorem Qi {p : Prop} (h : p := by first | assumption | exact List.getElem?_eq_getElem (by omega) | rfl | simp [*]) : p := h
theorem Qs {p : Prop} (h : p := by (repeat (first | exact List.Sublist.refl _ | exact List.nil_sublist _ | refine List.Sublist.cons_cons _ ?_ | refine List.Sublist.cons _ ?_)) <;> fail) : p := h
theorem Qk {p : Prop} (h : p := by decide +kernel) : p := h
theorem Qy {p : Prop} (h : p := by (repeat (first | exact Says.nil | refine Says.cons ?_ ?_ | rfl)) <;> fail) : p := h
theorem Qr {p : Prop} (h : p := by kernel_rfl) : p := h
theorem one_iff {xs : List AV} : (xs.flatMap AV.cells).all AV.one = true ↔ ∀ x ∈ xs, x.cells.all AV.one = true := by
  rw [List.all_flatMap, List.all_eq_true]
theorem one_map {α : Type} {f : α → AV} (l : List α) (h : ∀ x, (f x).cells.all AV.one = true) : ((l.map f).flatMap AV.cells).all AV.one = true :=
  one_iff.2 fun x hx => by obtain ⟨y, _, rfl⟩ := List.mem_map.1 hx; exact h y
theorem one_take {xs : List AV} (n : Nat) (h : (xs.flatMap AV.cells).all AV.one = true) : ((xs.take n).flatMap AV.cells).all AV.one = true := one_iff.2 fun x hx => one_iff.1 h x (List.mem_of_mem_take hx)
theorem one_drop {xs : List AV} (n : Nat) (h : (xs.flatMap AV.cells).all AV.one = true) : ((xs.drop n).flatMap AV.cells).all AV.one = true := one_iff.2 fun x hx => one_iff.1 h x (List.mem_of_mem_drop hx)
theorem Q1 {p : Prop} (h : p := by first | rfl | exact one_map _ (fun _ => rfl) | exact one_take _ (one_map _ (fun _ => rfl)) | exact one_drop _ (one_map _ (fun _ => rfl)) | exact one_take _ (one_drop _ (one_map _ (fun _ => rfl))) | exact List.all_eq_true.2 (by simp [AV.one, AV.cells])) : p := h
def oneK : TD → Bool
  | .no => false
  | .st _ _ _ => false
  | .arr _ _ _ _ => false
  | _ => true
def aggK : TD → Nat
  | .st k _ _ => k
  | .arr l _ k _ => Nat.mul l k
  | _ => 0
section
variable {P : Program} {T : Tr} {c : Ctx} {n : Cfg} {w : Bool} {ty : TypeId} {F : Fr} {L : List Ent} {k : AV → Prop} [hT : TabOK P T]
theorem one_of {t : TypeId} {td : TD} (hd : T.get t = some td) (h1 : oneK td = true) : OneT P t :=
  load_one hd (by rintro rfl; cases h1) (by rintro _ _ _ rfl; cases h1) (by rintro _ _ _ _ rfl; cases h1)
theorem Ask.ldB {t U : TypeId} {x : Operand} {g off : Nat} {z : Bool} {cs : List AV} {td : TD} (i : Nat) (hd : T.get t = some td) (h1 : oneK td = true) (hL : L[i]? = some (.blk g U z cs)) (hx : oget n F x = some (.v (.pointer (some ⟨g, off, none⟩)))) (hk : nth cs off k) :
    Ask P c n w (.load t x) ty F L k :=
  let ⟨r, e, h⟩ := nth_out hk; ⟨r, fun _ => Gr.ldB (one_of hd h1) hx i hL e, h⟩
theorem Ask.ldBA {t U : TypeId} {x : Operand} {g off : Nat} {z : Bool} {cs : List AV} {td : TD} (i : Nat) (hd : T.get t = some td) (h1 : Nat.beq (aggK td) 0 = false) (hL : L[i]? = some (.blk g U z cs)) (hx : oget n F x = some (.v (.pointer (some ⟨g, off, none⟩)))) (hk : dropK cs off fun ds => takeK ds (aggK td) fun vs => k (.agg vs)) :
    Ask P c n w (.load t x) ty F L k := by
  obtain ⟨vs, h1', h2, h⟩ := takeK_out (dropK_out hk)
  have ha : AggT P t (aggK td) := by
    cases td with
    | st k fs zs => exact (tab_st hT hd).1
    | arr l e k zs => exact (tab_arr hT hd).2.1
    | _ => simp [aggK] at h1
  exact ⟨_, fun _ => Gr.ldBA ha hx i hL h1' (by rw [h2]; simp), h⟩
theorem Ask.lenR {t e U : TypeId} {kk b q : Nat} {z : Bool} {x : Operand} {v : Value} {xs : List AV} (i : Nat) (hd : T.get t = some (.sl e kk b)) (hL : L[i]? = some (.row v U kk q z xs)) (hx : oget n F x = some (.v v)) (hk : k (I xs.length)) : Ask P c n w (.call ⟨.builtin .len, #[x], #[t]⟩) ty F L k :=
  ⟨_, fun _ => Gr.lenR (tab_sl hT hd).1 i hx hL, hk⟩
theorem Ask.idxR {q : IntKind} {a : Int} {t e U : TypeId} {kk b m : Nat} {z : Bool} {x y : Operand} {v : Value} {xs : List AV} (i : Nat) (hd : T.get t = some (.sl e kk b)) (hL : L[i]? = some (.row v U kk m z xs)) (hx : oget n F x = some (.v v)) (hy : oget n F y = some (.v (.int q a))) (h0 : w = true → 0 ≤ a ∧ a < xs.length) (hk : k (.v (.pointer (some ⟨blkOf v, a.toNat * kk, none⟩)))) :
    Ask P c n w (.indexAddr t x y) ty F L k := ⟨_, fun e => Gr.idxR (tab_sl hT hd).1 i hx hL hy (h0 e).1 (h0 e).2, hk⟩
theorem Ask.ldR {t U : TypeId} {x : Operand} {v : Value} {a j kk m : Nat} {z : Bool} {xs : List AV} {p r : AV} {td : TD} (i : Nat) (hd : T.get t = some td) (h1 : oneK td = true) (hL : L[i]? = some (.row v U kk m z xs)) (hx : oget n F x = some (.v (.pointer (some ⟨blkOf v, a * kk + j, none⟩)))) (hp : xs[a]? = some p) (hr : p.cells[j]? = some r) (hk : k r) :
    Ask P c n w (.load t x) ty F L k := ⟨_, fun _ => Gr.ldR (one_of hd h1) i hx hL hp hr, hk⟩
theorem Ask.ldR0 {t U : TypeId} {x : Operand} {v : Value} {a kk m : Nat} {z : Bool} {xs : List AV} {p r : AV} {td : TD} (i : Nat) (hd : T.get t = some td) (h1 : oneK td = true) (hL : L[i]? = some (.row v U kk m z xs)) (hx : oget n F x = some (.v (.pointer (some ⟨blkOf v, a * kk, none⟩)))) (hp : xs[a]? = some p) (hr : p.cells[0]? = some r) (hk : k r) :
    Ask P c n w (.load t x) ty F L k := ⟨_, fun _ => Gr.ldR0 (one_of hd h1) i hx hL hp hr, hk⟩
theorem Ask.ldRA {t U : TypeId} {x : Operand} {v : Value} {a m : Nat} {z : Bool} {xs cs : List AV} {td : TD} (i : Nat) (hd : T.get t = some td) (h1 : Nat.beq (aggK td) 0 = false) (hL : L[i]? = some (.row v U (aggK td) m z xs)) (hx : oget n F x = some (.v (.pointer (some ⟨blkOf v, a * aggK td, none⟩)))) (hp : xs[a]? = some (.agg cs)) (hk : k (.agg cs)) :
    Ask P c n w (.load t x) ty F L k := by
  have ha : AggT P t (aggK td) := by
    cases td with
    | st k fs zs => exact (tab_st hT hd).1
    | arr l e k zs => exact (tab_arr hT hd).2.1
    | _ => simp [aggK] at h1
  exact ⟨_, fun _ => Gr.ldRA ha i hx hL hp, hk⟩
theorem Ask.idxT {t : TypeId} {x y : Operand} {p : ByteArray} {q : IntKind} {a : Int} (hd : T.get t = some .str) (hx : oget n F x = some (.v (.string p))) (hy : oget n F y = some (.v (.int q a))) (h0 : w = true → 0 ≤ a ∧ a < p.size) (hk : k (.v (.int .u8 (p.data.toList.getD a.toNat 0).toNat))) :
    Ask P c n w (.index t x y) ty F L k := by
  refine ⟨_, fun e => ?_, hk⟩
  have hlt : a.toNat < p.size := by have := h0 e; omega
  have e2 : p[a.toNat]? = some (p.data.toList.getD a.toNat 0) := by
    rw [getElem?_pos p a.toNat hlt]
    have : a.toNat < p.data.toList.length := by simpa using hlt
    simp only [List.getD, List.getElem?_eq_getElem this, Option.getD_some]
    rfl
  exact Gr.idxT (tab_str hT hd).1 hx hy (h0 e).1 e2
end
end Go.E2
namespace Go.E2
open Go.RowKit
structure Eff (P : Program) (c : Ctx) (n : Cfg) (ops : Array Oper) (o : Oper) (F : Fr) (L : List Ent) (R : AV → List Ent → Prop) : Prop where
  out : ∀ G Q, (∀ d, d ∈ o.looksAt ops → look F d = look G d) → (∀ r L', R r L' → Lx P c n ops Q [] (putF o.dst r G) L') → Lx P c n ops Q [o] G L
section
variable {P : Program} {T : Tr} {c : Ctx} {n : Cfg} {ops : Array Oper} {F G : Fr} {L : List Ent} {R : AV → List Ent → Prop}
variable {d : Option Tmp} {ty : TypeId} {pos : String} {aft : Array Edge}
theorem lx_cons {o : Oper} {rest : List Oper} {Q : Exit → Act → World → Prop} (h : Lx P c n ops (fun e a w => match e with | .normal => wpList P ops (OnlyN Q) rest a w | _ => False) [o] F L) : Lx P c n ops Q (o :: rest) F L :=
  ⟨fun H w a hs hF => by
    have h1 := h.out H w a hs hF
    unfold wpList at h1 ⊢
    split at h1
    · rename_i hw
      rw [if_pos hw]
      exact h1.imp (wp_only fun a w h => by unfold wpList at h; exact h) (fun h => ⟨h.1, lets_only h.2⟩)
    · rename_i hw
      rw [if_neg hw]
      unfold wpList at h1
      exact h1⟩
theorem LK.eff [TabOK P T] {K : Fr → List Ent → Prop} {o : Op} {g : Option (Nat × Bool)} {rest : List Oper} (h : Eff P c n ops ⟨d, o, ty, pos, aft, g⟩ F L R) (k : ∀ r L', R r L' → putK d r F fun F => wpl P T c n ops K rest F L') : LK P T c n ops K (⟨d, o, ty, pos, aft, g⟩ :: rest) F L :=
  ⟨fun Q hQ => lx_cons (h.out F _ (fun _ _ => rfl) fun r L' hr => ⟨fun H w a hs hF => by
    unfold wpList
    exact ((wpl_out (putK_out (k r L' hr))).out Q hQ).out H w a hs hF⟩)⟩
theorem Kx.eff {K : Fr → List Ent → Prop} {L0 : List Ent} {i : Nat} {is : List Nat} {o : Op} {g : Option (Nat × Bool)} (ho : ops[i]? = some ⟨d, o, ty, pos, aft, g⟩) (h : Eff P c n ops ⟨d, o, ty, pos, aft, g⟩ F L R) (hl : ∀ r L', R r L' → L0.Sublist L') (k : ∀ r L', R r L' → putK d r F fun F => Kx P c n ops L0 K is F L') : Kx P c n ops L0 K (i :: is) F L :=
  .cons ho R h.out hl fun r L' hr => putK_out (k r L' hr)
theorem Kx.yld {K : Fr → List Ent → Prop} {L0 : List Ent} {i : Nat} {is : List Nat} {o : Oper} {r : AV} (ho : ops[i]? = some o) (hsub : L0.Sublist L) (h : YieldsA P c n L ops o F r) (k : Kx P c n ops L0 K is (putF o.dst r F) L) : Kx P c n ops L0 K (i :: is) F L :=
  .cons ho (fun r' L' => r' = r ∧ L' = L) (fun _ _ hag hk => Lx.yld (h.congr hag) (hk r L ⟨rfl, rfl⟩)) (fun _ _ e => by rw [e.2]; exact hsub) (fun _ _ e => by obtain ⟨rfl, rfl⟩ := e; exact k)
theorem Kx.stp [TabOK P T] {K : Fr → List Ent → Prop} {L0 : List Ent} {i : Nat} {is : List Nat} {o : Op} {g : Option (Nat × Bool)} (ho : ops[i]? = some ⟨d, o, ty, pos, aft, g⟩) (hp : isPure o = true) (hsub : L0.Sublist L) (h : E2.stp P T c n ops o ty g F L fun r => putK d r F fun F => Kx P c n ops L0 K is F L) : Kx P c n ops L0 K (i :: is) F L := by
  have _ := hp
  obtain ⟨r, h1, h2⟩ := stp_out (o := ⟨d, o, ty, pos, aft, g⟩) h
  exact Kx.yld ho hsub h1 (putK_out h2)
theorem Kx.frzB {K : Fr → List Ent → Prop} {L0 : List Ent} {i : Nat} {is : List Nat} (j : Nat) {g : Nat} {t : TypeId} {z : Bool} {cs : List AV} (hL : L[j]? = some (.blk g t z cs)) (k : Kx P c n ops L0 K (i :: is) F (L.set j (.blk g t true cs))) : Kx P c n ops L0 K (i :: is) F L := by
  cases k with
  | cons ho R hs hl hk => exact .cons ho R (fun G Q h1 h2 => Lx.frzB j hL (hs G Q h1 h2)) hl hk
/-! the rules -/
theorem ogetp_look {xs : List (Nat × Operand)} (h : ∀ p ∈ xs, oget n F p.2 = oget n G p.2) : ogetp n F xs = ogetp n G xs := by
  induction xs with
  | nil => rfl
  | cons p xs ih =>
    obtain ⟨i, x⟩ := p
    simp only [ogetp]
    rw [h (i, x) (by simp), ih fun y hy => h y (by simp [hy])]
theorem Eff.call {f : FuncId} {x : Operand} {xs : List Operand} {as1 as2 : List AV} {ts : Array TypeId} {Φ : AV → List Ent → Prop} (hf : EntersT P f) (hc : FnE P f as2 Φ) (hx : oget n F x = some (.v (.func (.func f) #[] #[]))) (hv : ogets n F xs = some as1) (hsb : SbL L as1 as2) :
    Eff P c n ops ⟨d, .call ⟨.value x, xs.toArray, ts⟩, ty, pos, aft, none⟩ F L fun r L' => ∃ E, Φ r E ∧ L' = E ++ L :=
  ⟨fun _ _ hag hk => Lx.call hf rfl (by rw [← look_op hag (by simp [Op.operands, Call.operands])]; exact hx) (by rw [← ogets_look fun y hy => look_op hag (by simp [Op.operands, Call.operands, hy])]; exact hv) hsb hc fun a E h => hk a _ ⟨E, h, rfl⟩⟩
section
variable [hT : TabOK P T]
theorem Eff.app {t e : TypeId} {size bytes q : Nat} {z : Bool} {s x : Operand} {v : Value} {a : AV} {xs ys : List AV} (j : Nat) (hd : T.get t = some (.sl e size bytes)) (hL : L[j]? = some (.row v e size q z xs)) (hs : oget n F s = some (.v v)) (hx : oget n F x = some a)
    (hz : (Nat.blt 0 size && Nat.blt 0 bytes) = true) (hsb : Sb L a (.sl size ys)) (h1 : (ys.flatMap AV.cells).all AV.one = true) (hb : (xs.length + ys.length) * bytes ≤ 140737488355328) :
    Eff P c n ops ⟨d, .call ⟨.builtin .append, #[s, x], #[t, t]⟩, ty, pos, aft, none⟩ F L fun r L' => ∃ v', r = .v v' ∧ L' = L.set j (.row v' e size q false (xs ++ ys)) := by
  simp only [Bool.and_eq_true, Nat.blt_eq] at hz
  exact ⟨fun _ _ hag hk => Lx.append ((tab_sl hT hd).2.2 hz.1 hz.2) rfl (by rw [← look_op hag (by simp [Op.operands, Call.operands])]; exact hs) (by rw [← look_op hag (by simp [Op.operands, Call.operands])]; exact hx) j hL hsb h1 hb fun v' => hk _ _ ⟨v', rfl, rfl⟩⟩
theorem Eff.alloc {t : TypeId} {td : TD} {s : Tmp} (hd : T.get t = some td) (h0 : (match td with | .no => false | _ => true) = true) :
    Eff P c n ops ⟨some s, .alloc t, ty, pos, aft, none⟩ F L fun r L' => ∃ b, r = .v (.pointer (some ⟨b, 0, none⟩)) ∧ L' = .blk b t false ((zsOf td).map .v) :: L :=
  ⟨fun _ _ _ hk => Lx.alloc (tab_zero hT hd (by rintro rfl; cases h0)) rfl fun b => hk _ _ ⟨b, rfl, rfl⟩⟩
theorem Eff.st1 {t U : TypeId} {x y : Operand} {g off : Nat} {cs : List AV} {r : AV} {td : TD} (i : Nat) (hd : T.get t = some td) (h1 : oneK td = true) (hL : L[i]? = some (.blk g U false cs)) (hx : oget n F x = some (.v (.pointer (some ⟨g, off, none⟩)))) (hy : oget n F y = some r) (ho : Nat.blt off cs.length = true) (hu : r.one = true) :
    Eff P c n ops ⟨d, .store t x y, ty, pos, aft, none⟩ F L fun q L' => q = .v undef ∧ L' = L.set i (.blk g U false (cs.set off r)) :=
  ⟨fun _ _ hag hk => Lx.st1 (one_of hd h1) rfl (by rw [← look_op hag (by simp [Op.operands])]; exact hx) (by rw [← look_op hag (by simp [Op.operands])]; exact hy) i hL ho hu (hk _ _ ⟨rfl, rfl⟩)⟩
theorem Eff.stA {t U : TypeId} {x y : Operand} {g off : Nat} {cs vs : List AV} {td : TD} (i : Nat) (hd : T.get t = some td) (h1 : Nat.beq (aggK td) 0 = false) (hL : L[i]? = some (.blk g U false cs)) (hx : oget n F x = some (.v (.pointer (some ⟨g, off, none⟩)))) (hy : oget n F y = some (.agg vs)) (hl : Nat.beq vs.length (aggK td) = true) (hl' : Nat.ble (off + aggK td) cs.length = true) (hu : vs.all AV.one = true) :
    Eff P c n ops ⟨d, .store t x y, ty, pos, aft, none⟩ F L fun q L' => q = .v undef ∧ L' = L.set i (.blk g U false (cs.take off ++ vs ++ cs.drop (off + aggK td))) := by
  have ha : AggT P t (aggK td) := by
    cases td with
    | st k fs zs => exact (tab_st hT hd).1
    | arr l e k zs => exact (tab_arr hT hd).2.1
    | _ => simp [aggK] at h1
  exact ⟨fun _ _ hag hk => Lx.stA ha rfl (by rw [← look_op hag (by simp [Op.operands])]; exact hx) (by rw [← look_op hag (by simp [Op.operands])]; exact hy) i hL hl hl' hu (hk _ _ ⟨rfl, rfl⟩)⟩
theorem Eff.bsl {t e len k bytes : Nat} {xs : Array (Nat × Operand)} {ps : List (Nat × AV)} {es : List AV} (hd : T.get t = some (.sl e k bytes)) (hv : ogetp n F xs.toList = some ps) (hk : (Nat.blt 0 k && Nat.beq ps.length len && Nat.ble (len * k) 16777216) = true) (hl : lit k 0 ps = some es) :
    Eff P c n ops ⟨d, .buildSlice t len xs, ty, pos, aft, none⟩ F L fun r L' => ∃ v, r = .v v ∧ L' = .row v e k 0 false es :: L :=
  ⟨fun G Q hag hk' => by
    have hv' : ogetp n G xs.toList = some ps := by
      rw [← ogetp_look fun p hp => look_op hag (by simp only [Op.operands, List.mem_toArray, List.mem_map]; exact ⟨p, hp, rfl⟩)]
      exact hv
    have := Lx.buildSlice (P := P) (c := c) (n := n) (ops := ops) (Q := Q) (F := G) (L := L) (ty := ty) (d := d) (pos := pos) (aft := aft) (gd := none) (rest := []) rfl hv' (bsl_of hd hk hl (sl_zero hd)) fun v => hk' _ _ ⟨v, rfl, rfl⟩
    rwa [Array.toArray_toList] at this⟩
end
theorem Gr.see {o : Op} {r a b : AV} (s : Nat) (h : look F s = some a) (hs : Sb L a b) (k : Gr P c n o ty ((s, b) :: F) L r) : Gr P c n o ty F L r :=
  ⟨fun H w ρ hst hr d pos aft g => k.out H w ρ hst (fun x hm av hav => by
    cases x with
    | tmp t =>
      simp only [oget] at hav
      split at hav
      · rename_i hlt
        by_cases e : s = t
        · subst e
          rw [look_cons_self] at hav
          cases hav
          exact hs.rel hst (hr (.tmp s) hm a (by simp only [oget]; rw [hlt]; exact h))
        · rw [look_cons_ne _ _ e] at hav
          exact hr (.tmp t) hm av (by simp only [oget]; rw [hlt]; exact hav)
      · cases hav
    | _ => exact hr _ hm av hav) d pos aft g⟩
theorem AskR.cellA [hT : TabOK P T] {t U : TypeId} {a : Tmp} {g off : Nat} {z : Bool} {cs : List AV} {td : TD} {k : AV → Prop} (i : Nat) (hd : T.get t = some td) (h1 : Nat.beq (aggK td) 0 = false) (hL : L[i]? = some (.blk g U z cs)) (hx : oget n F (.tmp a) = some (.v (.pointer (some ⟨g, off, none⟩)))) (hk : dropK cs off fun ds => takeK ds (aggK td) fun vs => k (.agg vs)) : AskR P c n (.cell a t) F L k := by
  obtain ⟨vs, h1', h2, h⟩ := takeK_out (dropK_out hk)
  have ha : AggT P t (aggK td) := by
    cases td with
    | st k fs zs => exact (tab_st hT hd).1
    | arr l e k zs => exact (tab_arr hT hd).2.1
    | _ => simp [aggK] at h1
  exact ⟨_, Rv.cellA ha hx i hL h1' (by rw [h2]; simp), h⟩
theorem AskR.cell1 [hT : TabOK P T] {t U : TypeId} {a : Tmp} {g off : Nat} {z : Bool} {cs : List AV} {td : TD} {k : AV → Prop} (i : Nat) (hd : T.get t = some td) (h1 : oneK td = true) (hL : L[i]? = some (.blk g U z cs)) (hx : oget n F (.tmp a) = some (.v (.pointer (some ⟨g, off, none⟩)))) (hk : nth cs off k) : AskR P c n (.cell a t) F L k :=
  let ⟨r, e, h⟩ := nth_out hk; ⟨r, Rv.cell1 (one_of hd h1) hx i hL e, h⟩
/-- regions of open order whose operations cs turn the heap one after the other -/
def anyKB (ops : Array Oper) (fs cs : List Nat) : Bool := (ops.toList.all fun o => noDef o.op) && mixB ops ops.toList.length cs && partB ops ops.toList.length fs cs
theorem CK.anyK [hT : TabOK P T] {m : Nat} {ro : Option Nat} {K : KT} {ds : List Deferred} {id : Nat} {ops : Array Oper} (fs cs : List Nat) (L0 : List Ent) (hsub : L0.Sublist L) (hB : anyKB ops fs cs = true)
    (h : wpo P T c ⟨m, ds, ro⟩ ops L0 (fun F => Kx P c ⟨m, ds, ro⟩ ops L0 (fun F L => K ds .normal F L) cs F L) (fs.map fun i => ops.toList.getD i default) F) : CK P T c m ro (.region id ops true) K ds F L := by
  simp only [anyKB, Bool.and_eq_true] at hB
  obtain ⟨⟨h1, h2⟩, h3⟩ := hB
  refine ⟨fun Q hQ => ?_⟩
  obtain ⟨F', h6, h7⟩ := wpo_out h
  have e : ops.toList.toArray = ops := Array.toArray_toList
  have mono : ∀ {cs : List Nat} {F : Fr} {L : List Ent}, Kx P c ⟨m, ds, ro⟩ ops L0 (fun F L => K ds .normal F L) cs F L → Kx P c ⟨m, ds, ro⟩ ops L0 (fun F L' => Lx P c ⟨m, ds, ro⟩ ops Q [] F L') cs F L := fun hk => by
    induction hk with
    | nil h => exact .nil (Lx.nil (hQ _ _ _ _ h))
    | cons ho R hs hl hk ih => exact .cons ho R hs hl ih
  have := Cx.anyK (P := P) (c := c) (n := ⟨m, ds, ro⟩) (Q := Q) (F := F) (L := L) (id := id) (l := ops.toList) fs cs L0 hsub hT.fol rfl h1 (by rw [e]; exact h2) (by rw [e]; exact h3) (by
    rw [e]
    exact ⟨F', h6, mono h7⟩)
  rwa [e] at this
/-! structs compared -/
theorem part_one {t : TypeId} {xs : Array Value} {o : Nat} {a : Value} (h : OneT P t) (hx : xs[o]? = some a) (w : World) : (part t xs o).run P w = .ok a w := by
  simp [part, run_isAgg_f h, hx]
theorem eqf {dd : Nat} {xs ys : Array Value} {f : Field} {fs : List Field} {a b : Value} {r rs : Bool} {w : World} (hn : f.name ≠ "_") (h1 : OneT P f.type) (hx : xs[f.offset]? = some a) (hy : ys[f.offset]? = some b) (hr : (Op.equalIn dd f.type a b).run P w = .ok r w) (ht : (Op.eqFields dd xs ys fs).run P w = .ok rs w) :
    (Op.eqFields dd xs ys (f :: fs)).run P w = .ok (r && rs) w := by
  simp only [Op.eqFields, hn, ne_eq, not_false_eq_true, if_true, Sem.run_bind, part_one h1 hx, part_one h1 hy, hr, Result.andThen_ok]
  cases r <;> simp [ht]
theorem eqI {dd : Nat} {t : TypeId} {k : IntKind} {a b : Int} {w : World} (hT : TabOK P T) (h : T.get t = some (.int k)) : (Op.equalIn (dd + 1) t (.int k a) (.int k b)).run P w = .ok (decide (a = b)) w := by
  rw [run_equalIn_int w dd t k k a b (tab_int hT h).1]; rfl
theorem eqT_of {t : TypeId} {xs ys : Array Value} {b : Bool} {fs : Array Field} (hu : P.underlying t = some (.struct fs)) (h1 : P.stoodInHeld t = false) (h2 : P.eqGuardType P.depth t = false) (h : ∀ w, (Op.eqFields 9999 xs ys fs.toList).run P w = .ok b w) : EqT P t (.agg xs) (.agg ys) b := by
  have hf : P.fieldsOf t = fs := by unfold Program.fieldsOf; rw [hu]
  have he : ∀ w, (Op.equalIn 10000 t (.agg xs) (.agg ys)).run P w = .ok b w := fun w => by
    rw [run_equalIn_struct w 9999 t xs ys (by rw [hf]; exact hu) h1, hf]; exact h w
  exact ⟨fun w => by rw [run_eql_struct, he w]; rfl, fun op o1 o2 w => run_eqGuard_agg w op t o1 o2 xs ys h2, fun w => by rw [run_neq_struct, he w]; rfl⟩
/-- a slice compared with nil: what has elements is not nil -/
theorem LK.nilB [TabOK P T] {K : Fr → List Ent → Prop} {rest : List Oper} {t t' e : TypeId} {k b : Nat} {x : Operand} {xs : List AV} (hd : T.get t = some (.sl e k b)) (hx : oget n F x = some (.sl k xs)) (kk : ∀ b : Bool, (xs ≠ [] → b = false) → putK d (B b) F fun F => wpl P T c n ops K rest F L) :
    LK P T c n ops K (⟨d, .binOp .eql t x (.const (.slice none 0 0)) t', ty, pos, aft, none⟩ :: rest) F L :=
  ⟨fun Q hQ => Lx.op rfl fun H w a hs hF => by
    have hr := hF.eval hx
    obtain ⟨A, cap, e1, _, _, g⟩ := hr.inv_sl
    refine ⟨.value (.bool A.isNone), w, .bool A.isNone, B A.isNone, H, L, ?_, .inl rfl, Cells.le_refl _, hs, .v _, (wpl_out (putK_out (kk A.isNone fun hne => ?_))).out Q hQ⟩
    · have e2 : a.eval (.const (.slice none 0 0)) = .slice none 0 0 := rfl
      simp [execOp, e1, e2, eqGuard, Lib.run_eql_slice_nil w t e _ _ _ _ _ (tab_sl inferInstance hd).1.und]
    · obtain ⟨b, off, rfl, _⟩ := g hne
      rfl⟩
end
end Go.E2
namespace Go.E2
open Go.RowKit
section
variable {P : Program} {T : Tr} {c : Ctx} {m : Nat} {ro : Option Nat} {x : Code} {K : KT} {ds : List Deferred} {F : Fr} {L : List Ent}
/-- a cell of entry i seen otherwise -/
theorem CK.seeB (i off : Nat) {g : Nat} {t : TypeId} {z : Bool} {cs : List AV} {a b : AV} (hL : L[i]? = some (.blk g t z cs)) (ha : cs[off]? = some a) (hs : Sb L a b) (k : CK P T c m ro x K ds F (L.set i (.blk g t z (cs.set off b)))) : CK P T c m ro x K ds F L := ⟨fun Q hQ => Cx.seeB i off hL ha hs (k.out Q hQ)⟩
/-- ghost steps before K -/
inductive Gst (K : Fr → List Ent → Prop) : Fr → List Ent → Prop
  | done {F : Fr} {L : List Ent} (h : K F L) : Gst K F L
  | see {F : Fr} {L : List Ent} (t : Nat) {a b : AV} (h : look F t = some a) (hs : Sb L a b) (k : Gst K ((t, b) :: F) L) : Gst K F L
  | frzR {F : Fr} {L : List Ent} (i : Nat) {v : Value} {t : TypeId} {size m : Nat} {z : Bool} {xs : List AV} (hL : L[i]? = some (.row v t size m z xs)) (k : Gst K F (L.set i (.row v t size xs.length true xs))) : Gst K F L
  | frzB {F : Fr} {L : List Ent} (i : Nat) {g : Nat} {t : TypeId} {z : Bool} {cs : List AV} (hL : L[i]? = some (.blk g t z cs)) (k : Gst K F (L.set i (.blk g t true cs))) : Gst K F L
  | seeB {F : Fr} {L : List Ent} (i off : Nat) {g : Nat} {t : TypeId} {z : Bool} {cs : List AV} {a b : AV} (hL : L[i]? = some (.blk g t z cs)) (ha : cs[off]? = some a) (hs : Sb L a b) (k : Gst K F (L.set i (.blk g t z (cs.set off b)))) : Gst K F L
  | nilrow {F : Fr} {L : List Ent} (t : TypeId) (size : Nat) (k : Gst K F (.row (.slice none 0 0) t size 0 false [] :: L)) : Gst K F L
  | weak {F : Fr} {L : List Ent} (G : Fr) {L' : List Ent} (hG : Says F G) (hL : L'.Sublist L) (k : Gst K G L') : Gst K F L
theorem Gst.ex {n : Cfg} {Q : Exit → Act → World → Prop} {e : Exit} {K : Fr → List Ent → Prop} (hQ : ∀ F L, K F L → Ex c n Q e F L) (h : Gst K F L) : Ex c n Q e F L := by
  induction h with
  | done h => exact hQ _ _ h
  | see t h hs _ ih => exact Ex.see t h hs ih
  | frzR i hL _ ih => exact Ex.frzR i hL ih
  | frzB i hL _ ih => exact Ex.frzB i hL ih
  | seeB i off hL ha hs _ ih => exact ⟨fun H w a hst hF => ih.out H w a (hst.seeB hL ha hs) hF⟩
  | nilrow t size _ ih => exact ⟨fun H w a hst hF => ih.out H w a (hst.nilrow t size) hF⟩
  | weak G hG hL _ ih => exact Ex.weak G hG hL ih
/-- ghost steps after a piece of code -/
theorem CK.post (h : CK P T c m ro x (fun ds e F L => Gst (K ds e) F L) ds F L) : CK P T c m ro x K ds F L := ⟨fun Q hQ => h.out Q fun ds e _ _ hg => hg.ex (hQ ds e)⟩
/-- ghost steps before a piece of code -/
theorem CK.ghost (h : Gst (fun F L => CK P T c m ro x K ds F L) F L) : CK P T c m ro x K ds F L := ⟨fun Q hQ => by
  induction h with
  | done h => exact h.out Q hQ
  | see t h hs _ ih => exact Cx.see t h hs ih
  | frzR i hL _ ih => exact Cx.frzR i hL ih
  | frzB i hL _ ih => exact Cx.frzB i hL ih
  | seeB i off hL ha hs _ ih => exact Cx.seeB i off hL ha hs ih
  | nilrow t size _ ih => exact Cx.nilrow t size ih
  | weak G hG hL _ ih => exact Cx.weak G hG hL ih⟩
end
section
variable {P : Program} {T : Tr} {c : Ctx} {n : Cfg} {ops : Array Oper} {F : Fr} {L : List Ent} {Q : Exit → Act → World → Prop}
variable {d : Option Tmp} {ty : TypeId} {pos : String} {aft : Array Edge}
/-- what a row of the call's own is held by is a slice -/
theorem Lx.isSl {l : List Oper} (i : Nat) {v : Value} {t : TypeId} {size m : Nat} {z : Bool} {xs : List AV} (hL : L[i]? = some (.row v t size m z xs)) (k : ∀ A k cp, v = .slice A k cp → Lx P c n ops Q l F L) : Lx P c n ops Q l F L :=
  ⟨fun H w a hs hF => by
    obtain ⟨us, hr, _⟩ := hs.holds _ (List.mem_of_getElem? hL)
    rcases hr.2 with ⟨h, _⟩ | ⟨g, cap, cur, h, _⟩
    · exact (k _ _ _ h).out H w a hs hF
    · exact (k _ _ _ h).out H w a hs hF⟩
theorem Eff.appS [hT : TabOK P T] {t e : TypeId} {size bytes q : Nat} {z : Bool} {s x : Operand} {v : Value} {a : AV} {xs ys : List AV} (j : Nat) (hd : T.get t = some (.sl e size bytes)) (hL : L[j]? = some (.row v e size q z xs)) (hs : oget n F s = some (.v v)) (hx : oget n F x = some a)
    (hz : (Nat.blt 0 size && Nat.blt 0 bytes) = true) (hsb : Sb L a (.sl size ys)) (h1 : (ys.flatMap AV.cells).all AV.one = true) (hb : (xs.length + ys.length) * bytes ≤ 140737488355328) :
    Eff P c n ops ⟨d, .call ⟨.builtin .append, #[s, x], #[t, t]⟩, ty, pos, aft, none⟩ F L fun r L' => ∃ A k cp, r = .v (.slice A k cp) ∧ L' = L.set j (.row (.slice A k cp) e size q false (xs ++ ys)) := by
  refine ⟨fun G Q hag hk => (Eff.app j hd hL hs hx hz hsb h1 hb).out G Q hag ?_⟩
  rintro _ _ ⟨v', rfl, rfl⟩
  refine Lx.isSl j (v := v') (t := e) (size := size) (m := q) (z := false) (xs := xs ++ ys) ?_ fun A k cp e => ?_
  · have := (List.getElem?_eq_some_iff.1 hL).1
    rw [List.getElem?_set, if_pos rfl, if_pos this]
  · subst e
    exact hk _ _ ⟨A, k, cp, rfl, rfl⟩
end
section
variable {P : Program} {T : Tr} {c : Ctx} {n : Cfg} {w : Bool} {ty : TypeId} {F : Fr} {L : List Ent} {k : AV → Prop} [hT : TabOK P T] {α : Type} [Inhabited α] {f : α → AV} {ys : List α}
theorem Ask.idxAB {q : IntKind} {i : Int} {t e : TypeId} {len kk g o : Nat} {zs : List Value} {x y : Operand} (hd : T.get t = some (.arr len e kk zs)) (hx : oget n F x = some (.v (.pointer (some ⟨g, o, none⟩)))) (hy : oget n F y = some (.v (.int q i))) (h : w = true → 0 ≤ i ∧ i < len) (hk : k (.v (.pointer (some ⟨g, o + i.toNat * kk, none⟩)))) :
    Ask P c n w (.indexAddr t x y) ty F L k := ⟨_, fun e => Gr.idxAB (tab_arr hT hd).1 hx hy (h e).1 (h e).2, hk⟩
theorem map_getD {a : Nat} (h : a < ys.length) : (ys.map f)[a]? = some (f (ys.getD a default)) := by
  rw [List.getElem?_map, List.getElem?_eq_getElem h]
  simp [List.getD, h]
/-- a cell of a row's element, known under the guard alone -/
theorem Ask.ldRM {t U : TypeId} {x : Operand} {v : Value} {a j kk m : Nat} {z : Bool} {td : TD} (i : Nat) (hd : T.get t = some td) (h1 : oneK td = true) (hL : L[i]? = some (.row v U kk m z (ys.map f))) (hx : oget n F x = some (.v (.pointer (some ⟨blkOf v, a * kk + j, none⟩)))) (h : w = true → a < ys.length) (hk : nth (f (ys.getD a default)).cells j k) :
    Ask P c n w (.load t x) ty F L k := by
  obtain ⟨r, e, hk⟩ := nth_out hk
  exact ⟨r, fun q => Gr.ldR (one_of hd h1) i hx hL (map_getD (h q)) e, hk⟩
theorem Ask.ldRM0 {t U : TypeId} {x : Operand} {v : Value} {a kk m : Nat} {z : Bool} {td : TD} (i : Nat) (hd : T.get t = some td) (h1 : oneK td = true) (hL : L[i]? = some (.row v U kk m z (ys.map f))) (hx : oget n F x = some (.v (.pointer (some ⟨blkOf v, a * kk, none⟩)))) (h : w = true → a < ys.length) (hk : nth (f (ys.getD a default)).cells 0 k) :
    Ask P c n w (.load t x) ty F L k := by
  obtain ⟨r, e, hk⟩ := nth_out hk
  exact ⟨r, fun q => Gr.ldR0 (one_of hd h1) i hx hL (map_getD (h q)) e, hk⟩
theorem Ask.ldRMA {t U : TypeId} {x : Operand} {v : Value} {a m : Nat} {z : Bool} {td : TD} (i : Nat) (hd : T.get t = some td) (h1 : Nat.beq (aggK td) 0 = false) (hL : L[i]? = some (.row v U (aggK td) m z (ys.map f))) (hx : oget n F x = some (.v (.pointer (some ⟨blkOf v, a * aggK td, none⟩)))) (h : w = true → a < ys.length) (hk : match f (ys.getD a default) with | .agg cs => k (.agg cs) | _ => False) :
    Ask P c n w (.load t x) ty F L k := by
  have ha : AggT P t (aggK td) := by
    cases td with
    | st k fs zs => exact (tab_st hT hd).1
    | arr l e k zs => exact (tab_arr hT hd).2.1
    | _ => simp [aggK] at h1
  split at hk
  · rename_i cs e
    exact ⟨_, fun q => Gr.ldRA ha i hx hL (by rw [map_getD (h q), e]), hk⟩
  · exact hk.elim
end
section
variable {P : Program} {T : Tr} {c : Ctx} {n : Cfg} {ops : Array Oper} {F : Fr} {L : List Ent} {K : Fr → List Ent → Prop} [hT : TabOK P T]
variable {d : Option Tmp} {ty : TypeId} {pos : String} {aft : Array Edge} {rest : List Oper} {α : Type} [Inhabited α] {f : α → AV} {ys : List α}
theorem LK.stRM {t U : TypeId} {x y : Operand} {v : Value} {a j k m : Nat} {z : Bool} {r : AV} {td : TD} (i : Nat) (hd : T.get t = some td) (hL : L[i]? = some (.row v U k m z (ys.map f))) (hx : oget n F x = some (.v (.pointer (some ⟨blkOf v, a * k + j, none⟩)))) (hy : oget n F y = some r)
    (h1 : (match td with | .no => false | .st _ _ _ => false | .arr _ _ _ _ => false | _ => true) = true) (hm : m ≤ a) (ha : a < ys.length) (hj : Nat.blt j (f (ys.getD a default)).cells.length = true) (hu : r.one = true) (kk : putK d (.v undef) F fun F => wpl P T c n ops K rest F (L.set i (.row v U k m false ((ys.map f).set a ((f (ys.getD a default)).setCell j r))))) :
    LK P T c n ops K (⟨d, .store t x y, ty, pos, aft, none⟩ :: rest) F L := LK.stR i hd hL hx hy h1 hm (map_getD ha) hj hu kk
end
end Go.E2
namespace Go.E2
open Go.RowKit
section
variable {P : Program} {c : Ctx} {n : Cfg} {Q : Exit → Act → World → Prop} {F G : Fr} {L L0 : List Ent} {ops : Array Oper}
theorem wpAny_mix2 {m : Nat} {K : Fr → List Ent → Prop} {cs0 : List Nat} {Ff : Fr} (hM : Mix ops m cs0)
    (hK : ∀ F L H w a, K F L → St c H w L → Fit H n F a → wpList P ops (OnlyN Q) [] a w)
    (hfl : ∀ i o, ops[i]? = some o → i ∉ cs0 → ∃ r, YieldsA P c n L0 ops o Ff r ∧ ∀ d, o.dst = some d → look Ff d = some r)
    {i0 j0 : Nat} {is : List Nat} {F : Fr} {L : List Ent} (hci : chE ops (i0 :: is) = true) (hcj : chE ops (j0 :: is) = true) (hk1 : Kx P c n ops L0 K (i0 :: j0 :: is) F L) (hk2 : Kx P c n ops L0 K (j0 :: i0 :: is) F L) (hsub : L0.Sublist L)
    (h3 : ∀ i ∈ i0 :: j0 :: is, i ∈ cs0) (hn : (i0 :: j0 :: is).Nodup) (hFf : ∀ s, look F s = look Ff s) :
    ∀ (fuel : Nat) (listed : Array Bool) (G : Fr) (H : Cells) (w : World) (a : Act), listed.size = m → Closed ops listed → unl m listed = fuel →
      (∀ i ∈ i0 :: j0 :: is, listed.getD i true = false) → (∀ i ∈ cs0, i ∈ i0 :: j0 :: is ∨ listed.getD i true = true) →
      (∀ s, (∀ i o, ops[i]? = some o → listed.getD i true = false → i ∉ cs0 → o.dst ≠ some s) → look G s = look F s) →
      St c H w L → Fit H n G a → wpAny P .any ops (OnlyN Q) fuel listed a w := by
  intro fuel
  induction fuel with
  | zero =>
    intro listed G H w a hsz hc hu h1 h2 hG hst hF
    have hz := unl_zero hu
    cases hk1 with
    | cons ho R hs hl hk =>
      have hlt : i0 < m := by rw [← hM.size]; exact (Array.getElem?_eq_some_iff.1 ho).1
      have := hz _ hlt
      rw [h1 _ (by simp)] at this
      cases this
  | succ fuel ih =>
    intro listed G H w a hsz hc hu h1 h2 hG hst hF
    refine ⟨fun h0 => ?_, fun i hi => ?_⟩
    · exfalso
      obtain ⟨i, hi, hl⟩ := unl_pos (k := m) (listed := listed) (by omega)
      obtain ⟨j, g1, g2, g3⟩ := min_unl i hl
      have hjm : j < ops.size := by have := hM.size; omega
      have hj : j ∈ Region.ready .any ops listed := mem_ready.2 ⟨g2, ops[j], Array.getElem?_eq_getElem hjm, fun e he hb => by
        have hlt := hM.back j _ (Array.getElem?_eq_getElem hjm) e he hb
        have := g3 e.on hlt
        have hel : e.on < listed.size := by omega
        simp [hel] at this ⊢
        exact this⟩
      rw [h0] at hj
      cases hj
    obtain ⟨hun, o, ho, _⟩ := mem_ready.1 hi
    have him : i < m := by rw [← hM.size]; exact (Array.getElem?_eq_some_iff.1 ho).1
    have hil : i < listed.size := by omega
    have hus := unl_set hil hun m
    rw [if_pos him] at hus
    have hag : ∀ d, d ∈ o.looksAt ops → look F d = look G d := fun d hd => (hG d fun i' o' ho' hl' hn' he => (hM.deps i i' o o' d ho ho' he hd).elim (fun h => ready_edge hi h.1 hl') (fun h => hn' h.1)).symm
    have go : ∀ (k : Nat) (rest : List Nat), (i :: k :: rest).Perm (i0 :: j0 :: is) → chE ops (k :: rest) = true → Kx P c n ops L0 K (i :: k :: rest) F L → wpOp P ops (OnlyN Q) i (fun a w => wpAny P .any ops (OnlyN Q) fuel (listed.setIfInBounds i true) a w) a w := fun k rest hp hch hkk => by
      have hic : i ∈ cs0 := h3 i (hp.mem_iff.1 (by simp))
      have hn' := (hp.nodup_iff).2 hn
      cases hkk with
      | @cons _ _ o' _ _ ho' R hs hl hk =>
        rw [ho] at ho'
        cases ho'
        refine wpOp_one ho (Q1 := fun _ a' w' => wpAny P .any ops (OnlyN Q) fuel (listed.setIfInBounds i true) a' w') (fun _ _ h => h) ((hs G _ hag fun r L' hR => Lx.nil ⟨fun H' w' a' hst' hF' => ?_⟩).out H w a hst hF)
        refine wpAny_mix hM hK hfl fuel _ (k :: rest) (putF o.dst r F) (putF o.dst r G) L' H' w' a' (by simpa using hsz) (hc.set hi) (by omega) (fun x hx => ?_) (fun x hx => ?_) (fun x hx => h3 x (hp.mem_iff.1 (List.mem_cons_of_mem _ hx))) (List.nodup_cons.1 hn').2 hch (hk r L' hR) (hl r L' hR) (fun s hs' => ?_) (fun s hs' => ?_) hst' hF'
        · rw [getD_set_ne true (fun e => (List.nodup_cons.1 hn').1 (by rw [e]; exact hx))]
          exact h1 x (hp.mem_iff.1 (List.mem_cons_of_mem _ hx))
        · by_cases e : i = x
          · right
            subst e
            simp [hil]
          · rcases h2 x hx with h | h
            · rcases List.mem_cons.1 (hp.mem_iff.2 h) with h | h
              · exact absurd h.symm e
              · exact .inl h
            · right
              rw [getD_set_ne true e]
              exact h
        · rw [put_ne (hs' i o hic ho (by simp [hil]))]
          exact hFf s
        · exact put_eq (hG s fun i' o' ho' hl' hn' => hs' i' o' ho' (by rw [getD_set_ne true (fun e => hn' (by rw [← e]; exact hic))]; exact hl') hn')
    by_cases hic : i ∈ cs0
    · have hics : i ∈ i0 :: j0 :: is := (h2 i hic).resolve_right (by rw [hun]; simp)
      rcases List.mem_cons.1 hics with e | hr
      · subst e
        exact go j0 is (List.Perm.refl _) hcj hk1
      · rcases List.mem_cons.1 hr with e | hr
        · subst e
          exact go i0 is (List.Perm.swap _ _ _) hci hk2
        · obtain ⟨x, hx, he⟩ := chE_mem hci hr
          have hx' : x ∈ i0 :: j0 :: is := by
            rcases List.mem_cons.1 hx with h | h
            · simp [h]
            · simp [h]
          exact (ready_edge hi he (h1 x hx')).elim
    · obtain ⟨r, hy, hd⟩ := hfl i o ho hic
      have hy' : YieldsA P c n L ops o G r := (hy.sub hsub).congr fun d hd' => by
        rw [← hag d hd']
        exact (hFf d).symm
      have hnext : ∀ H' w' v, H.le H' → St c H' w' L → Rel H' r v → wpAny P .any ops (OnlyN Q) fuel (listed.setIfInBounds i true) (a.put o.dst v) w' := fun H' w' v hle hs' hr => by
        refine ih _ (putF o.dst r G) H' w' _ (by simpa using hsz) (hc.set hi) (by omega) (fun x hx => ?_) (fun x hx => ?_) (fun s hs'' => ?_) hs' ((hF.mono hle).put hr o.dst)
        · rw [getD_set_ne true (fun e => hic (by rw [e]; exact h3 x hx))]
          exact h1 x hx
        · rcases h2 x hx with h | h
          · exact .inl h
          · right
            rw [getD_set_ne true (fun e => hic (by rw [e]; exact hx))]
            exact h
        · by_cases e : o.dst = some s
          · rw [hFf s, hd s e, e]
            exact look_cons_self _ _ _
          · rw [put_ne e]
            refine hG s fun i' o' ho' hl' hn' => ?_
            by_cases e' : i = i'
            · subst e'
              rw [ho] at ho'
              cases ho'
              exact e
            · exact hs'' i' o' ho' (by rw [getD_set_ne true e']; exact hl') hn'
      unfold wpOp
      simp only [ho]
      rcases hy'.cases with ⟨_, hw, hg, hrr⟩ | ⟨hw, hrr⟩
      · rw [if_pos (wanted_fit hF.size hF.rel hw)]
        exact .inl (oper_wp_grows hst (hg.out H w a.eval hst (hF.reads _) o.dst o.pos o.after o.guard) fun H' w' v hl hs' hr => hnext H' w' v hl hs' (hrr _ _ hr))
      · rw [if_neg (by rw [wanted_fit hF.size hF.rel hw]; simp)]
        exact hnext H w undef (Cells.le_refl _) hst (hrr _)
def part2B (ops : Array Oper) (m : Nat) (fs : List Nat) (i0 j0 : Nat) (is : List Nat) : Bool := ascB fs && ascB (i0 :: j0 :: is) && (chE ops (i0 :: is) && chE ops (j0 :: is)) && (fs.all fun i => Nat.blt i m && !(i0 :: j0 :: is).contains i) && ((i0 :: j0 :: is).all fun i => Nat.blt i m) && (List.range m).all fun i => (i0 :: j0 :: is).contains i || fs.contains i
theorem Cx.any2 {id : Nat} {l : List Oper} {m : Nat} (fs : List Nat) (i0 j0 : Nat) (is : List Nat) (L0 : List Ent) (hsub : L0.Sublist L) (hm : P.follows .mixedOrders = true) (hl : l.length = m) (hd : l.all (fun o => noDef o.op) = true)
    (hB : mixB l.toArray m (i0 :: j0 :: is) = true) (hC : part2B l.toArray m fs i0 j0 is = true)
    (h : Ox P c n l.toArray (fun Ff => Kx P c n l.toArray L0 (fun F L' => Lx P c n l.toArray Q [] F L') (i0 :: j0 :: is) Ff L ∧ Kx P c n l.toArray L0 (fun F L' => Lx P c n l.toArray Q [] F L') (j0 :: i0 :: is) Ff L) (fs.map fun i => l.getD i default) F L0) : Cx P c n (.region id l.toArray true) Q F L :=
  ⟨fun H w a hs hF _ => by
    have hsz : l.toArray.size = m := by simpa using hl
    have hM := mix_of hsz hB
    simp only [part2B, Bool.and_eq_true, List.all_eq_true, List.mem_range, Bool.or_eq_true, Bool.not_eq_true', List.contains_eq_mem, decide_eq_false_iff_not, decide_eq_true_eq] at hC
    obtain ⟨⟨⟨⟨⟨c1, c2⟩, c3, c3'⟩, c4⟩, c6⟩, c5⟩ := hC
    refine wpIn_of_any hd hm ?_
    obtain ⟨Ff, h1, h2⟩ := h.out
    have hget : ∀ i ∈ fs, l.toArray[i]? = some (l.getD i default) := fun i hi => by
      have : i < l.length := by rw [hl]; exact Nat.le_of_ble_eq_true (c4 i hi).1
      simp [this]
    obtain ⟨f1, f2⟩ := h1.full (by
        rw [List.pairwise_map]
        refine (List.Pairwise.and_mem.1 (ascB_pw c1)).imp ?_
        rintro i j ⟨hi, hj, hij⟩ d hd
        refine ⟨fun hm => ?_, fun he => ?_⟩
        · have := ((hM.deps i j _ _ d (hget i hi) (hget j hj) hd hm).resolve_right fun h => (c4 j hj).2 h.1).1
          obtain ⟨o, ho, e, e1, e2, e3⟩ := edgeB_spec this
          have := hM.back i o ho e e1 e2
          omega
        · have := hM.dist i j _ _ d (hget i hi) (hget j hj) hd he
          omega) (fun o ho d hd hm => by
        obtain ⟨i, hi, rfl⟩ := List.mem_map.1 ho
        have := ((hM.deps i i _ _ d (hget i hi) (hget i hi) hd hm).resolve_right fun h => (c4 i hi).2 h.1).1
        obtain ⟨o, ho, e, e1, e2, e3⟩ := edgeB_spec this
        have := hM.back i o ho e e1 e2
        omega)
    have hfl : ∀ i o, l.toArray[i]? = some o → i ∉ i0 :: j0 :: is → i ∈ fs ∧ o = l.getD i default := fun i o ho hn => by
      have him : i < m := by rw [← hsz]; exact (Array.getElem?_eq_some_iff.1 ho).1
      have hi := (c5 i him).resolve_left hn
      refine ⟨hi, ?_⟩
      rw [hget i hi] at ho
      exact (Option.some.inj ho).symm
    have hun : ∀ k, k ≤ m → unl k (Array.replicate m false) = k := by
      intro k
      induction k with
      | zero => intro _; rfl
      | succ k ih =>
        intro hk
        have h3 := ih (by omega)
        simp only [unl, h3]
        rw [if_pos (by simp [show k < m by omega])]
    rw [hsz]
    refine wpAny_mix2 (P := P) (Q := Q) (K := fun F L' => Lx P c n l.toArray Q [] F L') (Ff := Ff) hM (fun F L H w a k hst hF => k.out H w a hst hF)
      (fun i o ho hn => by
        obtain ⟨hi, rfl⟩ := hfl i o ho hn
        exact f1 _ (List.mem_map.2 ⟨i, hi, rfl⟩)) c3 c3' h2.1 h2.2 hsub (fun i hi => hi) ((ascB_pw c2).imp fun h => Nat.ne_of_lt h) (fun s => rfl) m (Array.replicate m false) F H _ a (by simp) (fun k o ho hk => by simp [Array.getElem?_replicate] at hk; split at hk <;> simp_all) (hun m (Nat.le_refl _))
      (fun i hi => by
        have him : i < m := Nat.le_of_ble_eq_true (c6 i hi)
        simp [him]) (fun i hi => .inl hi) (fun s hs' => by
          refine (f2 s fun o ho he => ?_).symm
          obtain ⟨i, hi, rfl⟩ := List.mem_map.1 ho
          have him : i < m := Nat.le_of_ble_eq_true (c4 i hi).1
          exact hs' i _ (hget i hi) (by simp [him]) (c4 i hi).2 he) hs.drew hF⟩
theorem Lx.perm {l : List Oper} {L' : List Ent} (hp : L.Perm L') (h : Lx P c n ops Q l F L) : Lx P c n ops Q l F L' := ⟨fun H w a hs hF => h.out H w a (hs.perm hp.symm) hF⟩
theorem Lx.feq {l : List Oper} (hf : FEq F G) (h : Lx P c n ops Q l F L) : Lx P c n ops Q l G L := ⟨fun H w a hs hF => h.out H w a hs (hF.weak fun s x hx => by rw [← hf s]; exact hx)⟩
theorem Kx.congr {K : Fr → List Ent → Prop} (hK : ∀ F G L L', FEq F G → L.Perm L' → K F L → K G L') {cs : List Nat} (h : Kx P c n ops L0 K cs F L) : ∀ {G : Fr} {L' : List Ent}, FEq F G → L.Perm L' → Kx P c n ops L0 K cs G L' := by
  induction h with
  | nil h => intro G L' hf hp; exact .nil (hK _ _ _ _ hf hp h)
  | cons ho R hs hl hk ih =>
    intro G L' hf hp
    exact .cons ho R (fun G' Q hag hr => Lx.perm hp (hs G' Q (fun d hd => (hf d).trans (hag d hd)) hr)) hl fun r L'' hr => ih r L'' hr (hf.put _ r) (List.Perm.refl _)
variable {T : Tr}
theorem CK.any2 [hT : TabOK P T] {m : Nat} {ro : Option Nat} {K : KT} {ds : List Deferred} {id : Nat} {ops : Array Oper} (fs : List Nat) (i0 j0 : Nat) (is : List Nat) (L0 : List Ent) (hsub : L0.Sublist L) {di dj : Tmp} {ti tj : TypeId} {yi yj : TypeId} {pi pj : String} {ei ej : Array Edge} {tdi tdj : TD}
    (hB : ((ops.toList.all fun o => noDef o.op) && mixB ops ops.toList.length (i0 :: j0 :: is) && part2B ops ops.toList.length fs i0 j0 is) = true) (hi : ops[i0]? = some ⟨some di, .alloc ti, yi, pi, ei, none⟩) (hj : ops[j0]? = some ⟨some dj, .alloc tj, yj, pj, ej, none⟩) (hne : Nat.beq di dj = false)
    (hdi : T.get ti = some tdi) (hdj : T.get tj = some tdj) (h0i : (match tdi with | .no => false | _ => true) = true) (h0j : (match tdj with | .no => false | _ => true) = true)
    (h : wpo P T c ⟨m, ds, ro⟩ ops L0 (fun F => ∀ g1 g2, Kx P c ⟨m, ds, ro⟩ ops L0 (fun F L => K ds .normal F L) is ((dj, .v (.pointer (some ⟨g2, 0, none⟩))) :: (di, .v (.pointer (some ⟨g1, 0, none⟩))) :: F) (.blk g2 tj false ((zsOf tdj).map .v) :: .blk g1 ti false ((zsOf tdi).map .v) :: L)) (fs.map fun i => ops.toList.getD i default) F) : CK P T c m ro (.region id ops true) K ds F L := by
  simp only [Bool.and_eq_true] at hB
  obtain ⟨⟨h1, h2⟩, h3⟩ := hB
  refine ⟨fun Q hQ => ?_⟩
  obtain ⟨F', h6, h7⟩ := wpo_out h
  have e : ops.toList.toArray = ops := Array.toArray_toList
  have mono : ∀ {cs : List Nat} {F : Fr} {L : List Ent}, Kx P c ⟨m, ds, ro⟩ ops L0 (fun F L => K ds .normal F L) cs F L → Kx P c ⟨m, ds, ro⟩ ops L0 (fun F L' => Lx P c ⟨m, ds, ro⟩ ops Q [] F L') cs F L := fun hk => by
    induction hk with
    | nil h => exact .nil (Lx.nil (hQ _ _ _ _ h))
    | cons ho R hs hl hk ih => exact .cons ho R hs hl ih
  have hK : ∀ F G L L', FEq F G → L.Perm L' → Lx P c ⟨m, ds, ro⟩ ops Q [] F L → Lx P c ⟨m, ds, ro⟩ ops Q [] G L' := fun F G L L' hf hp hx => Lx.feq hf (Lx.perm hp hx)
  have hnd : di ≠ dj := fun e => by subst e; simp at hne
  have := Cx.any2 (P := P) (c := c) (n := ⟨m, ds, ro⟩) (Q := Q) (F := F) (L := L) (id := id) (l := ops.toList) fs i0 j0 is L0 hsub hT.fol rfl h1 (by rw [e]; exact h2) (by rw [e]; exact h3) (by
    rw [e]
    refine ⟨F', h6, ?_, ?_⟩
    · refine Kx.eff hi (Eff.alloc hdi h0i) (by rintro _ _ ⟨_, rfl, rfl⟩; exact List.Sublist.cons _ hsub) ?_
      rintro _ _ ⟨g1, rfl, rfl⟩
      refine Kx.eff hj (Eff.alloc hdj h0j) (by rintro _ _ ⟨_, rfl, rfl⟩; exact List.Sublist.cons _ (List.Sublist.cons _ hsub)) ?_
      rintro _ _ ⟨g2, rfl, rfl⟩
      exact mono (h7 g1 g2)
    · refine Kx.eff hj (Eff.alloc hdj h0j) (by rintro _ _ ⟨_, rfl, rfl⟩; exact List.Sublist.cons _ hsub) ?_
      rintro _ _ ⟨g2, rfl, rfl⟩
      refine Kx.eff hi (Eff.alloc hdi h0i) (by rintro _ _ ⟨_, rfl, rfl⟩; exact List.Sublist.cons _ (List.Sublist.cons _ hsub)) ?_
      rintro _ _ ⟨g1, rfl, rfl⟩
      exact (mono (h7 g1 g2)).congr hK (put_comm (d := some dj) (e := some di) (fun x hx => by cases hx; exact fun h => hnd (by cases h; rfl)) _ _ F') (List.Perm.swap _ _ _))
  rwa [e] at this
end
section
variable {P : Program} {c : Ctx} {n : Cfg} {ops : Array Oper} {F : Fr} {L : List Ent} {Q : Exit → Act → World → Prop} {rest : List Oper}
variable {d : Option Tmp} {ty : TypeId} {pos : String} {aft : Array Edge} {gd : Option (Nat × Bool)}
theorem flat_put {k : Nat} : ∀ (xs : List AV) (a : Nat) (vs : List AV), (∀ x ∈ xs, x.cells.length = k) → a < xs.length → (xs.set a (.agg vs)).flatMap AV.cells = (xs.flatMap AV.cells).take (a * k) ++ vs ++ (xs.flatMap AV.cells).drop (a * k + k)
  | [], _, _, _, h => by simp at h
  | x :: xs, 0, vs, hk, _ => by
    have hx := hk x (by simp)
    rw [List.set_cons_zero, List.flatMap_cons, List.flatMap_cons]
    simp [AV.cells, ← hx]
  | x :: xs, a + 1, vs, hk, h => by
    have hx := hk x (by simp)
    have ih := flat_put xs a vs (fun y hy => hk y (by simp [hy])) (by simpa using h)
    rw [List.set_cons_succ, List.flatMap_cons, List.flatMap_cons, ih]
    have e1 : (a + 1) * k = x.cells.length + a * k := by rw [Nat.succ_mul, hx]; omega
    rw [e1, show x.cells.length + a * k + k = x.cells.length + (a * k + k) by omega, List.take_length_add_append, List.drop_length_add_append]
    simp only [List.append_assoc]
theorem take_putR {α : Type} {l v : List α} {p q n : Nat} (h : p + q ≤ n) (hv : v.length = q) (hn : n ≤ l.length) : (l.take p ++ v ++ l.drop (p + q)).take n = (l.take n).take p ++ v ++ (l.take n).drop (p + q) := by
  have h1 : (l.take p ++ v).length = p + q := by rw [List.length_append, List.length_take, hv]; omega
  rw [List.take_append, List.take_of_length_le (by omega), h1, List.take_take, Nat.min_eq_left (by omega), List.drop_take]
/-- a struct stored over an element of a row -/
theorem Lx.stRA {t T : TypeId} {x y : Operand} {v : Value} {a k m : Nat} {z : Bool} {xs vs : List AV} (ht : AggT P t k) (hg : wantB ops n F gd = some true) (hx : oget n F x = some (.v (.pointer (some ⟨blkOf v, a * k, none⟩)))) (hy : oget n F y = some (.agg vs)) (i : Nat)
    (hL : L[i]? = some (.row v T k m z xs)) (hm : m ≤ a) (ha : a < xs.length) (hl : Nat.beq vs.length k = true) (hu : vs.all AV.one = true) (kk : Lx P c n ops Q rest (putF d (.v undef) F) (L.set i (.row v T k m false (xs.set a (.agg vs))))) :
    Lx P c n ops Q (⟨d, .store t x y, ty, pos, aft, gd⟩ :: rest) F L :=
  Lx.op hg fun H w ac hs hF => by
    obtain ⟨us', hrow, _, _, hm', hno, _⟩ := hs.holds _ (List.mem_of_getElem? hL)
    obtain ⟨cap, cur, us, hv, hh, h1, h2, h3, hrel, hcl, hul⟩ := row_at hs hL (by rintro rfl; simp at ha)
    obtain ⟨vv, e, hvv⟩ := (hF.eval hy).inv_agg
    have hvl : vv.length = k := by rw [← hvv.len]; exact Nat.eq_of_beq_eq_true hl
    have hak : a * k + k ≤ xs.length * k := by
      have : (a + 1) * k ≤ xs.length * k := Nat.mul_le_mul_right _ (by omega)
      rw [Nat.succ_mul] at this
      exact this
    have hck : xs.length * k ≤ cap * k := Nat.mul_le_mul_right _ h1
    have hsz : cur.size = cap * k := h2
    have hxs : xs.length * k ≤ cur.size := by rw [hsz]; exact hck
    have hst := run_storeCells_at (P := P) (blkOf v) (a * k) T vv 0 cur w hh (by omega) (fun v hm => hvv.oneAll hu v hm)
    have e2 : (cur.toList.take (a * k + 0) ++ vv ++ cur.toList.drop (a * k + 0 + vv.length)) = cur.toList.take (a * k) ++ vv ++ cur.toList.drop (a * k + k) := by simp [hvl]
    rw [e2] at hst
    have hcl2 : (cur.toList.take (a * k) ++ vv ++ cur.toList.drop (a * k + k)).length = cur.size := by
      simp only [List.length_append, List.length_take, List.length_drop, Array.length_toList, hvl]; omega
    generalize hnew : (cur.toList.take (a * k) ++ vv ++ cur.toList.drop (a * k + k)) = new at *
    refine ⟨.skip, w.setRow (blkOf v) new.toArray, undef, _, H, _, ?_, .inr ⟨rfl, rfl⟩, Cells.le_refl _, ?_, .v _, kk⟩
    · simp [execOp, (hF.eval hx).inv, e, Instr.storeAt, Instr.sureAddr, storeVar, run_sizeOf' ht.size, Value.cells, hvl] at hst ⊢
      simp [hst]
    · have hb : v.ownBlock = some (blkOf v) := by rw [hv]; rfl
      have hother : ∀ q, q ≠ blkOf v → (w.setRow (blkOf v) new.toArray).heap[q]? = w.heap[q]? := fun q hq => setRow_other w (blkOf v) q _ hq
      have hsame := setRow_heap w (blkOf v) cur new.toArray T (0, 0) hh
      have htake : new.take (xs.length * k) = us.take (a * k) ++ vv ++ us.drop (a * k + k) := by
        rw [← hnew, ← h3]
        exact take_putR hak hvl (by rw [Array.length_toList]; exact hxs)
      refine hs.turn hL ?_ ⟨us.take (a * k) ++ vv ++ us.drop (a * k + k), ⟨?_, .inr ⟨blkOf v, cap, new.toArray, ?_, ?_, hsame, by simpa using h1, ?_, by simp [hcl2, hsz], ?_⟩⟩, ?_, ?_, by simpa using hm', hno, fun h => by cases h⟩ ⟨rfl, rfl, rfl, by simp [World.setRow], fun q _ hq => hother q (fun e => hq (by rw [e]; exact hb.symm))⟩ (.inl rfl) (Nat.le_refl _)
      · intro b o u hu
        by_cases hbb : b = blkOf v
        · subst hbb
          have ho : o < m * k := by
            rcases Nat.lt_or_ge o (m * k) with h | h
            · exact h
            · rw [hno _ hb o h] at hu; cases hu
          have hma : m * k ≤ a * k := Nat.mul_le_mul_right _ hm
          have := hs.hin _ o u hu
          simp only [World.cell?, hh, hsame, Option.isSome_none, Bool.false_eq_true, if_false] at this ⊢
          rw [List.getElem?_toArray, ← hnew, List.append_assoc, List.getElem?_append_left (by rw [List.length_take, Array.length_toList]; omega), List.getElem?_take, if_pos (by omega), Array.getElem?_toList]
          exact this
        · have := hs.hin b o u hu
          simp only [World.cell?, hother b hbb] at this ⊢
          exact this
      · simp only [List.length_append, List.length_take, List.length_drop, List.length_set, hul, hvl]; omega
      · rw [List.length_set]; exact hv
      · exact (Ent.own_ge (hs.holds _ (List.mem_of_getElem? hL)) hb).1
      · rcases hrow.2 with ⟨e, _⟩ | ⟨g', cap', cur', e, _, _, _, c2, _⟩
        · rw [hv] at e; cases e
        · rw [hv] at e; injection e with _ _ e; rw [e]; exact c2
      · rw [List.length_set]; exact htake
      · rw [flat_put xs a vs hcl ha]
        exact ((hrel.take _).append hvv).append (hrel.drop _)
      · intro q hq
        rcases List.mem_or_eq_of_mem_set hq with h | h
        · exact hcl q h
        · rw [h]; exact Nat.eq_of_beq_eq_true hl
theorem Eff.stRA {T : Tr} [hT : TabOK P T] {t U : TypeId} {x y : Operand} {v : Value} {a m : Nat} {z : Bool} {xs vs : List AV} {td : TD} (i : Nat) (hd : T.get t = some td) (h1 : Nat.beq (aggK td) 0 = false) (hL : L[i]? = some (.row v U (aggK td) m z xs)) (hx : oget n F x = some (.v (.pointer (some ⟨blkOf v, a * aggK td, none⟩)))) (hy : oget n F y = some (.agg vs)) (hm : m ≤ a) (ha : a < xs.length) (hl : Nat.beq vs.length (aggK td) = true) (hu : vs.all AV.one = true) :
    Eff P c n ops ⟨d, .store t x y, ty, pos, aft, none⟩ F L fun q L' => q = .v undef ∧ L' = L.set i (.row v U (aggK td) m false (xs.set a (.agg vs))) := by
  have hag : AggT P t (aggK td) := by
    cases td with
    | st k fs zs => exact (tab_st hT hd).1
    | arr l e k zs => exact (tab_arr hT hd).2.1
    | _ => simp [aggK] at h1
  exact ⟨fun _ _ hagr hk => Lx.stRA hag rfl (by rw [← look_op hagr (by simp [Op.operands])]; exact hx) (by rw [← look_op hagr (by simp [Op.operands])]; exact hy) i hL hm ha hl hu (hk _ _ ⟨rfl, rfl⟩)⟩
end
end Go.E2
namespace Go.E2
open Go.RowKit
def okK : TD → Bool
  | .no => false
  | _ => true
theorem ix0 {a : Ent} {l : List Ent} : (a :: l)[0]? = some a := rfl
theorem ix1 {a b : Ent} {l : List Ent} : (a :: b :: l)[1]? = some b := rfl
theorem ix2 {a b c : Ent} {l : List Ent} : (a :: b :: c :: l)[2]? = some c := rfl
theorem ix3 {a b c d : Ent} {l : List Ent} : (a :: b :: c :: d :: l)[3]? = some d := rfl
theorem ix4 {a b c d e : Ent} {l : List Ent} : (a :: b :: c :: d :: e :: l)[4]? = some e := rfl
theorem ix5 {a b c d e f : Ent} {l : List Ent} : (a :: b :: c :: d :: e :: f :: l)[5]? = some f := rfl
theorem ix6 {a b c d e f g : Ent} {l : List Ent} : (a :: b :: c :: d :: e :: f :: g :: l)[6]? = some g := rfl
theorem ix7 {a b c d e f g h : Ent} {l : List Ent} : (a :: b :: c :: d :: e :: f :: g :: h :: l)[7]? = some h := rfl
theorem Qj {i : Nat} {L : List Ent} {e : Ent} (h : L[i]? = some e := by first | exact ix0 | exact ix1 | exact ix2 | exact ix3 | exact ix4 | exact ix5 | exact ix6 | exact ix7) : L[i]? = some e := h
section
variable {P : Program} {T : Tr} {c : Ctx} {n : Cfg} {w : Bool} {ty : TypeId} {F : Fr} {L : List Ent} {k : AV → Prop} [hT : TabOK P T] {α : Type} [Inhabited α] {f : α → AV} {ys : List α}
theorem lB {t U : TypeId} {x : Operand} {g off i : Nat} {z : Bool} {cs : List AV} {td : TD} (hk : nth cs off k) (hd : T.get t = some td := by exact rfl) (h1 : oneK td = true := by exact rfl) (hx : oget n F x = some (.v (.pointer (some ⟨g, off, none⟩))) := by exact rfl) (hL : L[i]? = some (.blk g U z cs) := by exact Qj) : Ask P c n w (.load t x) ty F L k := Ask.ldB i hd h1 hL hx hk
theorem lBA {t U : TypeId} {x : Operand} {g off i : Nat} {z : Bool} {cs : List AV} {td : TD} (hk : dropK cs off fun ds => takeK ds (aggK td) fun vs => k (.agg vs)) (hd : T.get t = some td := by exact rfl) (h1 : Nat.beq (aggK td) 0 = false := by exact rfl) (hx : oget n F x = some (.v (.pointer (some ⟨g, off, none⟩))) := by exact rfl) (hL : L[i]? = some (.blk g U z cs) := by exact Qj) : Ask P c n w (.load t x) ty F L k := Ask.ldBA i hd h1 hL hx hk
theorem nR {t e U : TypeId} {kk b q i : Nat} {z : Bool} {x : Operand} {v : Value} {xs : List AV} (hk : k (I xs.length)) (hd : T.get t = some (.sl e kk b) := by exact rfl) (hx : oget n F x = some (.v v) := by exact rfl) (hL : L[i]? = some (.row v U kk q z xs) := by exact Qj) : Ask P c n w (.call ⟨.builtin .len, #[x], #[t]⟩) ty F L k := Ask.lenR i hd hL hx hk
theorem iR {q : IntKind} {a : Int} {t e U : TypeId} {kk b m i : Nat} {z : Bool} {x y : Operand} {v : Value} {xs : List AV} (hk : k (.v (.pointer (some ⟨blkOf v, a.toNat * kk, none⟩)))) (hd : T.get t = some (.sl e kk b) := by exact rfl) (hx : oget n F x = some (.v v) := by exact rfl) (hL : L[i]? = some (.row v U kk m z xs) := by exact Qj) (hy : oget n F y = some (.v (.int q a)) := by exact rfl) (h0 : w = true → 0 ≤ a ∧ a < xs.length := by exact Qw) :
    Ask P c n w (.indexAddr t x y) ty F L k := Ask.idxR i hd hL hx hy h0 hk
theorem lR {t U : TypeId} {x : Operand} {v : Value} {a j kk m i : Nat} {z : Bool} {xs : List AV} {p r : AV} {td : TD} (hk : k r) (hd : T.get t = some td := by exact rfl) (h1 : oneK td = true := by exact rfl) (hx : oget n F x = some (.v (.pointer (some ⟨blkOf v, a * kk + j, none⟩))) := by exact rfl) (hL : L[i]? = some (.row v U kk m z xs) := by exact Qj) (hp : xs[a]? = some p := by exact Qi) (hr : p.cells[j]? = some r := by exact rfl) :
    Ask P c n w (.load t x) ty F L k := Ask.ldR i hd h1 hL hx hp hr hk
theorem lR0 {t U : TypeId} {x : Operand} {v : Value} {a kk m i : Nat} {z : Bool} {xs : List AV} {p r : AV} {td : TD} (hk : k r) (hd : T.get t = some td := by exact rfl) (h1 : oneK td = true := by exact rfl) (hx : oget n F x = some (.v (.pointer (some ⟨blkOf v, a * kk, none⟩))) := by exact rfl) (hL : L[i]? = some (.row v U kk m z xs) := by exact Qj) (hp : xs[a]? = some p := by exact Qi) (hr : p.cells[0]? = some r := by exact rfl) :
    Ask P c n w (.load t x) ty F L k := Ask.ldR0 i hd h1 hL hx hp hr hk
theorem lRA {t U : TypeId} {x : Operand} {v : Value} {a m i : Nat} {z : Bool} {xs cs : List AV} {td : TD} (hk : k (.agg cs)) (hd : T.get t = some td := by exact rfl) (h1 : Nat.beq (aggK td) 0 = false := by exact rfl) (hx : oget n F x = some (.v (.pointer (some ⟨blkOf v, a * aggK td, none⟩))) := by exact rfl) (hL : L[i]? = some (.row v U (aggK td) m z xs) := by exact Qj) (hp : xs[a]? = some (.agg cs) := by exact Qi) :
    Ask P c n w (.load t x) ty F L k := Ask.ldRA i hd h1 hL hx hp hk
theorem lM {t U : TypeId} {x : Operand} {v : Value} {a j kk m i : Nat} {z : Bool} {td : TD} (hk : nth (f (ys.getD a default)).cells j k) (hd : T.get t = some td := by exact rfl) (h1 : oneK td = true := by exact rfl) (hx : oget n F x = some (.v (.pointer (some ⟨blkOf v, a * kk + j, none⟩))) := by exact rfl) (hL : L[i]? = some (.row v U kk m z (ys.map f)) := by exact Qj) (h : w = true → a < ys.length := by exact Qw) :
    Ask P c n w (.load t x) ty F L k := Ask.ldRM i hd h1 hL hx h hk
theorem lM0 {t U : TypeId} {x : Operand} {v : Value} {a kk m i : Nat} {z : Bool} {td : TD} (hk : nth (f (ys.getD a default)).cells 0 k) (hd : T.get t = some td := by exact rfl) (h1 : oneK td = true := by exact rfl) (hx : oget n F x = some (.v (.pointer (some ⟨blkOf v, a * kk, none⟩))) := by exact rfl) (hL : L[i]? = some (.row v U kk m z (ys.map f)) := by exact Qj) (h : w = true → a < ys.length := by exact Qw) :
    Ask P c n w (.load t x) ty F L k := Ask.ldRM0 i hd h1 hL hx h hk
theorem lMA {t U : TypeId} {x : Operand} {v : Value} {a m i : Nat} {z : Bool} {td : TD} (hk : match f (ys.getD a default) with | .agg cs => k (.agg cs) | _ => False) (hd : T.get t = some td := by exact rfl) (h1 : Nat.beq (aggK td) 0 = false := by exact rfl) (hx : oget n F x = some (.v (.pointer (some ⟨blkOf v, a * aggK td, none⟩))) := by exact rfl) (hL : L[i]? = some (.row v U (aggK td) m z (ys.map f)) := by exact Qj) (h : w = true → a < ys.length := by exact Qw) :
    Ask P c n w (.load t x) ty F L k := Ask.ldRMA i hd h1 hL hx h hk
theorem rA {t U : TypeId} {a : Tmp} {g off i : Nat} {z : Bool} {cs : List AV} {td : TD} (hk : dropK cs off fun ds => takeK ds (aggK td) fun vs => k (.agg vs)) (hd : T.get t = some td := by exact rfl) (h1 : Nat.beq (aggK td) 0 = false := by exact rfl) (hx : oget n F (.tmp a) = some (.v (.pointer (some ⟨g, off, none⟩))) := by exact rfl) (hL : L[i]? = some (.blk g U z cs) := by exact Qj) : AskR P c n (.cell a t) F L k := AskR.cellA i hd h1 hL hx hk
theorem r1 {t U : TypeId} {a : Tmp} {g off i : Nat} {z : Bool} {cs : List AV} {td : TD} (hk : nth cs off k) (hd : T.get t = some td := by exact rfl) (h1 : oneK td = true := by exact rfl) (hx : oget n F (.tmp a) = some (.v (.pointer (some ⟨g, off, none⟩))) := by exact rfl) (hL : L[i]? = some (.blk g U z cs) := by exact Qj) : AskR P c n (.cell a t) F L k := AskR.cell1 i hd h1 hL hx hk
end
section
variable {P : Program} {T : Tr} {c : Ctx} {n : Cfg} {ops : Array Oper} {F : Fr} {L L0 : List Ent} {K : Fr → List Ent → Prop} [hT : TabOK P T]
variable {d : Option Tmp} {ty : TypeId} {pos : String} {aft : Array Edge} {rest : List Oper} {α : Type} [Inhabited α] {f : α → AV} {ys : List α}
theorem s1 {t U : TypeId} {x y : Operand} {g off i : Nat} {cs : List AV} {r : AV} {td : TD} (k : force (cs.set off r) fun cs' => putK d (.v undef) F fun F => wpl P T c n ops K rest F (L.set i (.blk g U false cs'))) (hd : T.get t = some td := by exact rfl) (h1 : (match td with | .no => false | .st _ _ _ => false | .arr _ _ _ _ => false | _ => true) = true := by exact rfl) (hx : oget n F x = some (.v (.pointer (some ⟨g, off, none⟩))) := by exact rfl) (hL : L[i]? = some (.blk g U false cs) := by exact Qj) (hy : oget n F y = some r := by exact rfl)
    (ho : Nat.blt off cs.length = true := by exact rfl) (hu : r.one = true := by exact rfl) : LK P T c n ops K (⟨d, .store t x y, ty, pos, aft, none⟩ :: rest) F L := LK.st1 i hd hL hx hy h1 ho hu k
theorem sA {t U : TypeId} {kk : Nat} {x y : Operand} {g off i : Nat} {cs vs : List AV} {td : TD} (k : force (cs.take off ++ vs ++ cs.drop (off + kk)) fun cs' => putK d (.v undef) F fun F => wpl P T c n ops K rest F (L.set i (.blk g U false cs'))) (hd : T.get t = some td := by exact rfl) (h1 : (match td with | .st k _ _ => some k | .arr l _ k _ => some (Nat.mul l k) | _ => none) = some kk := by exact rfl) (hx : oget n F x = some (.v (.pointer (some ⟨g, off, none⟩))) := by exact rfl) (hL : L[i]? = some (.blk g U false cs) := by exact Qj) (hy : oget n F y = some (.agg vs) := by exact rfl)
    (hl : Nat.beq vs.length kk = true := by exact rfl) (hl' : Nat.ble (off + kk) cs.length = true := by exact rfl) (hu : vs.all AV.one = true := by exact rfl) : LK P T c n ops K (⟨d, .store t x y, ty, pos, aft, none⟩ :: rest) F L := LK.stA i hd hL hx hy h1 hl hl' hu k
theorem sR {t U : TypeId} {x y : Operand} {v : Value} {a j q m i : Nat} {z : Bool} {xs : List AV} {p r : AV} {td : TD} (kk : putK d (.v undef) F fun F => wpl P T c n ops K rest F (L.set i (.row v U q m false (xs.set a (p.setCell j r))))) (hd : T.get t = some td := by exact rfl) (h1 : (match td with | .no => false | .st _ _ _ => false | .arr _ _ _ _ => false | _ => true) = true := by exact rfl) (hx : oget n F x = some (.v (.pointer (some ⟨blkOf v, a * q + j, none⟩))) := by exact rfl) (hL : L[i]? = some (.row v U q m z xs) := by exact Qj) (hy : oget n F y = some r := by exact rfl)
    (hm : m ≤ a := by omega) (hp : xs[a]? = some p := by exact Qi) (hj : Nat.blt j p.cells.length = true := by exact rfl) (hu : r.one = true := by exact rfl) : LK P T c n ops K (⟨d, .store t x y, ty, pos, aft, none⟩ :: rest) F L := LK.stR i hd hL hx hy h1 hm hp hj hu kk
theorem sM {t U : TypeId} {x y : Operand} {v : Value} {a j q m i : Nat} {z : Bool} {r : AV} {td : TD} (kk : putK d (.v undef) F fun F => wpl P T c n ops K rest F (L.set i (.row v U q m false ((ys.map f).set a ((f (ys.getD a default)).setCell j r))))) (hd : T.get t = some td := by exact rfl) (h1 : (match td with | .no => false | .st _ _ _ => false | .arr _ _ _ _ => false | _ => true) = true := by exact rfl) (hx : oget n F x = some (.v (.pointer (some ⟨blkOf v, a * q + j, none⟩))) := by exact rfl) (hL : L[i]? = some (.row v U q m z (ys.map f)) := by exact Qj) (hy : oget n F y = some r := by exact rfl)
    (hm : m ≤ a := by exact Nat.zero_le _) (ha : a < ys.length := by exact Qo) (hj : Nat.blt j (f (ys.getD a default)).cells.length = true := by exact rfl) (hu : r.one = true := by exact rfl) : LK P T c n ops K (⟨d, .store t x y, ty, pos, aft, none⟩ :: rest) F L := LK.stRM i hd hL hx hy h1 hm ha hj hu kk
theorem pA {t e : TypeId} {size bytes m i : Nat} {z : Bool} {s x : Operand} {v : Value} {a : AV} {xs zs : List AV} (k : ∀ v', putK d (.v v') F fun F => wpl P T c n ops K rest F (L.set i (.row v' e size m false (xs ++ zs)))) (hd : T.get t = some (.sl e size bytes) := by exact rfl) (hs : oget n F s = some (.v v) := by exact rfl) (hL : L[i]? = some (.row v e size m z xs) := by exact Qj) (hx : oget n F x = some a := by exact rfl)
    (hz : (Nat.blt 0 size && Nat.blt 0 bytes) = true := by exact rfl) (hsb : Sb L a (.sl size zs) := by exact Qb) (h1 : (zs.flatMap AV.cells).all AV.one = true := by exact Q1) (hb : (xs.length + zs.length) * bytes ≤ 140737488355328 := by exact Qo) :
    LK P T c n ops K (⟨d, .call ⟨.builtin .append, #[s, x], #[t, t]⟩, ty, pos, aft, none⟩ :: rest) F L := LK.app i hd hL hs hx hz hsb h1 hb k
theorem pF {t e : TypeId} {size bytes m i : Nat} {z : Bool} {s x : Operand} {v : Value} {a : AV} {xs zs : List AV} (k : ∀ v', putK d (.v v') F fun F => wpl P T c n ops K rest F (L.set i (.row v' e size m false (xs ++ zs)))) (hd : T.get t = some (.sl e size bytes) := by exact rfl) (hs : oget n F s = some (.v v) := by exact rfl) (hL : L[i]? = some (.row v e size m z xs) := by exact Qj) (hx : oget n F x = some a := by exact rfl)
    (hz : (Nat.blt 0 size && Nat.blt 0 bytes) = true := by exact rfl) (hsb : Sb L a (.sl size zs) := by exact Sb.row 0 rfl) (h1 : (zs.flatMap AV.cells).all AV.one = true := by exact Q1) (hb : (xs.length + zs.length) * bytes ≤ 140737488355328 := by exact Qo) :
    LK P T c n ops K (⟨d, .call ⟨.builtin .append, #[s, x], #[t, t]⟩, ty, pos, aft, none⟩ :: rest) F L := LK.app i hd hL hs hx hz hsb h1 hb k
theorem pS {t e : TypeId} {size bytes m i : Nat} {z : Bool} {s x : Operand} {v : Value} {a : AV} {xs zs : List AV} (k : ∀ A q cp, putK d (.v (.slice A q cp)) F fun F => wpl P T c n ops K rest F (L.set i (.row (.slice A q cp) e size m false (xs ++ zs)))) (hd : T.get t = some (.sl e size bytes) := by exact rfl) (hs : oget n F s = some (.v v) := by exact rfl) (hL : L[i]? = some (.row v e size m z xs) := by exact Qj) (hx : oget n F x = some a := by exact rfl)
    (hz : (Nat.blt 0 size && Nat.blt 0 bytes) = true := by exact rfl) (hsb : Sb L a (.sl size zs) := by exact Qb) (h1 : (zs.flatMap AV.cells).all AV.one = true := by exact Q1) (hb : (xs.length + zs.length) * bytes ≤ 140737488355328 := by exact Qo) :
    LK P T c n ops K (⟨d, .call ⟨.builtin .append, #[s, x], #[t, t]⟩, ty, pos, aft, none⟩ :: rest) F L :=
  LK.eff (Eff.appS i hd hL hs hx hz hsb h1 hb) fun r L' h => by
    obtain ⟨A, q, cp, rfl, rfl⟩ := h
    exact k A q cp
/-! chains -/
variable {j : Nat} {is : List Nat}
theorem kA {t : TypeId} {td : TD} {s : Tmp} (k : ∀ b, putK (some s) (.v (.pointer (some ⟨b, 0, none⟩))) F fun F => Kx P c n ops L0 K is F (.blk b t false ((zsOf td).map .v) :: L)) (ho : ops[j]? = some ⟨some s, .alloc t, ty, pos, aft, none⟩ := by exact rfl) (hd : T.get t = some td := by exact rfl) (h0 : okK td = true := by exact rfl) (hl : ∀ b, L0.Sublist (.blk b t false ((zsOf td).map .v) :: L) := by intro _; exact Qs) : Kx P c n ops L0 K (j :: is) F L :=
  Kx.eff ho (Eff.alloc hd (by cases td <;> first | exact h0 | rfl)) (by rintro _ _ ⟨b, rfl, rfl⟩; exact hl b) fun r L' h => by obtain ⟨b, rfl, rfl⟩ := h; exact k b
theorem kP {t e : TypeId} {size bytes m i : Nat} {z : Bool} {s x : Operand} {v : Value} {a : AV} {xs zs : List AV} (k : ∀ v', putK d (.v v') F fun F => Kx P c n ops L0 K is F (L.set i (.row v' e size m false (xs ++ zs)))) (ho : ops[j]? = some ⟨d, .call ⟨.builtin .append, #[s, x], #[t, t]⟩, ty, pos, aft, none⟩ := by exact rfl) (hd : T.get t = some (.sl e size bytes) := by exact rfl) (hs : oget n F s = some (.v v) := by exact rfl) (hL : L[i]? = some (.row v e size m z xs) := by exact Qj) (hx : oget n F x = some a := by exact rfl)
    (hz : (Nat.blt 0 size && Nat.blt 0 bytes) = true := by exact rfl) (hsb : Sb L a (.sl size zs) := by exact Qb) (h1 : (zs.flatMap AV.cells).all AV.one = true := by exact Q1) (hb : (xs.length + zs.length) * bytes ≤ 140737488355328 := by exact Qo) (hl : ∀ v', L0.Sublist (L.set i (.row v' e size m false (xs ++ zs))) := by intro _; exact Qs) : Kx P c n ops L0 K (j :: is) F L :=
  Kx.eff ho (Eff.app i hd hL hs hx hz hsb h1 hb) (by rintro _ _ ⟨b, rfl, rfl⟩; exact hl b) fun r L' h => by obtain ⟨b, rfl, rfl⟩ := h; exact k b
theorem kF {t e : TypeId} {size bytes m i : Nat} {z : Bool} {s x : Operand} {v : Value} {a : AV} {xs zs : List AV} (k : ∀ v', putK d (.v v') F fun F => Kx P c n ops L0 K is F (L.set i (.row v' e size m false (xs ++ zs)))) (ho : ops[j]? = some ⟨d, .call ⟨.builtin .append, #[s, x], #[t, t]⟩, ty, pos, aft, none⟩ := by exact rfl) (hd : T.get t = some (.sl e size bytes) := by exact rfl) (hs : oget n F s = some (.v v) := by exact rfl) (hL : L[i]? = some (.row v e size m z xs) := by exact Qj) (hx : oget n F x = some a := by exact rfl)
    (hz : (Nat.blt 0 size && Nat.blt 0 bytes) = true := by exact rfl) (hsb : Sb L a (.sl size zs) := by exact Sb.row 0 rfl) (h1 : (zs.flatMap AV.cells).all AV.one = true := by exact Q1) (hb : (xs.length + zs.length) * bytes ≤ 140737488355328 := by exact Qo) (hl : ∀ v', L0.Sublist (L.set i (.row v' e size m false (xs ++ zs))) := by intro _; exact Qs) : Kx P c n ops L0 K (j :: is) F L :=
  Kx.eff ho (Eff.app i hd hL hs hx hz hsb h1 hb) (by rintro _ _ ⟨b, rfl, rfl⟩; exact hl b) fun r L' h => by obtain ⟨b, rfl, rfl⟩ := h; exact k b
theorem kS {t e : TypeId} {size bytes m i : Nat} {z : Bool} {s x : Operand} {v : Value} {a : AV} {xs zs : List AV} (k : ∀ A q cp, putK d (.v (.slice A q cp)) F fun F => Kx P c n ops L0 K is F (L.set i (.row (.slice A q cp) e size m false (xs ++ zs)))) (ho : ops[j]? = some ⟨d, .call ⟨.builtin .append, #[s, x], #[t, t]⟩, ty, pos, aft, none⟩ := by exact rfl) (hd : T.get t = some (.sl e size bytes) := by exact rfl) (hs : oget n F s = some (.v v) := by exact rfl) (hL : L[i]? = some (.row v e size m z xs) := by exact Qj) (hx : oget n F x = some a := by exact rfl)
    (hz : (Nat.blt 0 size && Nat.blt 0 bytes) = true := by exact rfl) (hsb : Sb L a (.sl size zs) := by exact Qb) (h1 : (zs.flatMap AV.cells).all AV.one = true := by exact Q1) (hb : (xs.length + zs.length) * bytes ≤ 140737488355328 := by exact Qo) (hl : ∀ A q cp, L0.Sublist (L.set i (.row (.slice A q cp) e size m false (xs ++ zs))) := by intro _ _ _; exact Qs) : Kx P c n ops L0 K (j :: is) F L :=
  Kx.eff ho (Eff.appS i hd hL hs hx hz hsb h1 hb) (by rintro _ _ ⟨A, q, cp, rfl, rfl⟩; exact hl A q cp) fun r L' h => by obtain ⟨A, q, cp, rfl, rfl⟩ := h; exact k A q cp
theorem k1 {t U : TypeId} {x y : Operand} {g off i : Nat} {cs : List AV} {r : AV} {td : TD} (k : putK d (.v undef) F fun F => Kx P c n ops L0 K is F (L.set i (.blk g U false (cs.set off r)))) (ho' : ops[j]? = some ⟨d, .store t x y, ty, pos, aft, none⟩ := by exact rfl) (hd : T.get t = some td := by exact rfl) (h1 : oneK td = true := by exact rfl) (hx : oget n F x = some (.v (.pointer (some ⟨g, off, none⟩))) := by exact rfl) (hL : L[i]? = some (.blk g U false cs) := by exact Qj) (hy : oget n F y = some r := by exact rfl) (ho : Nat.blt off cs.length = true := by exact rfl) (hu : r.one = true := by exact rfl)
    (hl : L0.Sublist (L.set i (.blk g U false (cs.set off r))) := by exact Qs) : Kx P c n ops L0 K (j :: is) F L :=
  Kx.eff ho' (Eff.st1 i hd h1 hL hx hy ho hu) (by rintro _ _ ⟨rfl, rfl⟩; exact hl) fun q L' h => by obtain ⟨rfl, rfl⟩ := h; exact k
theorem kB {t U : TypeId} {x y : Operand} {g off i : Nat} {cs vs : List AV} {td : TD} (k : putK d (.v undef) F fun F => Kx P c n ops L0 K is F (L.set i (.blk g U false (cs.take off ++ vs ++ cs.drop (off + aggK td))))) (ho' : ops[j]? = some ⟨d, .store t x y, ty, pos, aft, none⟩ := by exact rfl) (hd : T.get t = some td := by exact rfl) (h1 : Nat.beq (aggK td) 0 = false := by exact rfl) (hx : oget n F x = some (.v (.pointer (some ⟨g, off, none⟩))) := by exact rfl) (hL : L[i]? = some (.blk g U false cs) := by exact Qj) (hy : oget n F y = some (.agg vs) := by exact rfl) (hq : Nat.beq vs.length (aggK td) = true := by exact rfl) (hq' : Nat.ble (off + aggK td) cs.length = true := by exact rfl) (hu : vs.all AV.one = true := by exact rfl)
    (hl : L0.Sublist (L.set i (.blk g U false (cs.take off ++ vs ++ cs.drop (off + aggK td)))) := by exact Qs) : Kx P c n ops L0 K (j :: is) F L :=
  Kx.eff ho' (Eff.stA i hd h1 hL hx hy hq hq' hu) (by rintro _ _ ⟨rfl, rfl⟩; exact hl) fun q L' h => by obtain ⟨rfl, rfl⟩ := h; exact k
theorem kL {t e len k' bytes : Nat} {xs : Array (Nat × Operand)} {ps : List (Nat × AV)} {es : List AV} (k : ∀ v, putK d (.v v) F fun F => Kx P c n ops L0 K is F (.row v e k' 0 false es :: L)) (ho : ops[j]? = some ⟨d, .buildSlice t len xs, ty, pos, aft, none⟩ := by exact rfl) (hd : T.get t = some (.sl e k' bytes) := by exact rfl) (hv : ogetp n F xs.toList = some ps := by exact rfl) (hk : (Nat.blt 0 k' && Nat.beq ps.length len && Nat.ble (len * k') 16777216) = true := by exact rfl) (hq : lit k' 0 ps = some es := by exact rfl) (hl : ∀ v, L0.Sublist (.row v e k' 0 false es :: L) := by intro _; exact Qs) : Kx P c n ops L0 K (j :: is) F L :=
  Kx.eff ho (Eff.bsl hd hv hk hq) (by rintro _ _ ⟨v, rfl, rfl⟩; exact hl v) fun q L' h => by obtain ⟨v, rfl, rfl⟩ := h; exact k v
end
/-! the walker's first steps in short -/
theorem zM {w : Bool} {q p : Prop} (k : p) (h : w = true → q := by first | exact fun h => h | exact fun _ => rfl | exact Qw) : Must w q p := ⟨h, k⟩
theorem zW {w : Bool} {q : Prop} {i : Int} {k : AV → Prop} (hk : k (I i)) (h : w = true → q := by exact Qw) : MW w q i k := .ok h hk
theorem zF {L : List Ent} {a r : AV} (h : a = r := by exact rfl) : Fin L a (Is r) := Fin.pure h
section
variable {w : Bool} {k : AV → Prop}
theorem zA {xs : List AV} {i : Int} {r : AV} (hk : k r) (h : xs[i.toNat]? = some r := by assumption) (h0 : w = true → 0 ≤ i := by exact Qw) : Ix w xs i k := Ix.at h h0 hk
theorem zB {xs : List AV} {i : Int} {r : AV} (hk : k r) (h : xs[i.toNat]? = some r := by exact Qi) (h0 : w = true → 0 ≤ i := by exact Qw) : Ix w xs i k := Ix.at h h0 hk
variable {α : Type} [Inhabited α] {f : α → AV} {ys : List α}
theorem zN {i : Nat} (hk : k (f (ys.getD i default))) (h : w = true → i < ys.length := by exact Qw) : Ix w (ys.map f) (i : Int) k := Ix.mapN h hk
theorem zO {i : Nat} (hk : k (f (ys.getD (i + 1) default))) (h : w = true → i + 1 < ys.length := by exact Qw) : Ix w (ys.map f) ((i : Int) + 1) k := Ix.mapN1 h hk
theorem zP {i : Int} (hk : k (f (ys.getD i.toNat default))) (h : w = true → 0 ≤ i ∧ i < ys.length := by exact Qw) : Ix w (ys.map f) i k := Ix.map h hk
end
theorem zQ {w : Bool} {a b : Int} {k : Int → Prop} (hk : k (a / b)) (h : w = true → 0 ≤ a ∧ 1 ≤ b ∧ a ≤ 9223372036854775807 := by exact Qw) : Quo w a b k := .nn h hk
theorem zR {w : Bool} {a b : Int} {k : Int → Prop} (hk : k (a % b)) (h : w = true → 0 ≤ a ∧ 1 ≤ b := by exact Qw) : Rem w a b k := .nn h hk
section
variable {P : Program} {T : Tr} {c : Ctx} {n : Cfg} {ops : Array Oper} {F : Fr} {L : List Ent} {K : Fr → List Ent → Prop} [hT : TabOK P T]
variable {d : Option Tmp} {ty : TypeId} {pos : String} {aft : Array Edge} {rest : List Oper} {w : Bool} {k : AV → Prop}
theorem zK {o : Op} {g : Nat × Bool} (h : imps w F o.operands.toList fun G => Ask P c n w o ty G L fun r => putK d (.opt w r) F fun F => wpl P T c n ops K rest F L) (hw : wantB ops n F (some g) = some w := by exact rfl) : LK P T c n ops K (⟨d, o, ty, pos, aft, some g⟩ :: rest) F L := LK.askW hw h
theorem zL {f : FuncId} {x : Operand} {xs : List Operand} {as1 as2 : List AV} {ts : Array TypeId} {r : AV} (hf : EntersT P f) (hc : FnA P f as2 r) (k : putK d r F fun F => wpl P T c n ops K rest F L) (hx : oget n F x = some (.v (.func (.func f) #[] #[])) := by exact rfl) (hv : ogets n F xs = some as1 := by exact rfl) (hsb : SbL L as1 as2 := by first | exact SbL.refl _ | exact Ql) :
    LK P T c n ops K (⟨d, .call ⟨.value x, xs.toArray, ts⟩, ty, pos, aft, none⟩ :: rest) F L := LK.callA hf hc hx hv hsb k
theorem zG {f : FuncId} {x : Operand} {xs : List Operand} {as1 as2 : List AV} {ts : Array TypeId} {r : AV} (hf : EntersT P f) (hc : w = true → FnA P f as2 r) (hk : k r) (hx : oget n F x = some (.v (.func (.func f) #[] #[])) := by exact rfl) (hv : ogets n F xs = some as1 := by exact rfl) (hsb : SbL L as1 as2 := by first | exact SbL.refl _ | exact Ql) :
    Ask P c n w (.call ⟨.value x, xs.toArray, ts⟩) ty F L k := Ask.callA hf hc hx hv hsb hk
variable {m : Nat} {ro : Option Nat} {KK : KT} {ds : List Deferred} {id : Nat}
theorem zC (h : wpo P T c ⟨m, ds, ro⟩ ops L (fun F => wpl P T c ⟨m, ds, ro⟩ ops (fun F L => KK ds .normal F L) (ops.toList.drop (tailP false ops.toList)) F L) (ops.toList.take (tailP false ops.toList)) F) (hB : anyB ops (tailP false ops.toList) = true := by exact Qk) : CK P T c m ro (.region id ops true) KK ds F L := CK.any false hB h
theorem zD (h : wpo P T c ⟨m, ds, ro⟩ ops L (fun F => wpl P T c ⟨m, ds, ro⟩ ops (fun F L => KK ds .normal F L) (ops.toList.drop (tailP true ops.toList)) F L) (ops.toList.take (tailP true ops.toList)) F) (hB : anyB ops (tailP true ops.toList) = true := by exact Qk) : CK P T c m ro (.region id ops true) KK ds F L := CK.any true hB h
end
end Go.E2
namespace Go.E2
open Go.RowKit
/-! keys -/
open Classical in
noncomputable def fk (a : Value) : List MapEntry → Nat → Option (Nat × Value)
  | [], _ => none
  | e :: es, i => if a = e.key then some (i, e.val) else fk a es (i + 1)
structure KeyT (P : Program) (kt : TypeId) (S : Value → Prop) : Prop where
  chk : ∀ e a, S a → ∀ w, (Instr.checkKey e 10000 kt a).run P w = .ok () w
  fnd : ∀ a, S a → ∀ es : List MapEntry, (∀ e ∈ es, S e.key) → ∀ w, (Instr.findKey kt a es).run P w = .ok (fk a es 0) w
  bits : ∀ a, S a → ∀ w, (Instr.keyThatStays a a).run P w = .ok a w
/-! keys of several cells -/
/-! maps by typed keys and values -/
def encM {α β : Type} (ek : α → Value) (ev : β → AV) (l : List (α × β)) : List (Value × AV) := l.map fun p => (ek p.1, ev p.2)
theorem encM_fst {α β : Type} (ek : α → Value) (ev : β → AV) (l : List (α × β)) : (encM ek ev l).map (·.1) = l.map fun p => ek p.1 := by simp [encM]
theorem encM_snd {α β : Type} (ek : α → Value) (ev : β → AV) (l : List (α × β)) : (encM ek ev l).map (·.2) = l.map fun p => ev p.2 := by simp [encM]
section
variable {α β : Type} [DecidableEq α]
end
theorem mkEs_get : ∀ {ks us : List Value} {s j : Nat} {k u : Value}, ks[j]? = some k → us[j]? = some u → (mkEs s ks us)[j]? = some ⟨k, u, s + j⟩
  | k :: ks, u :: us, s, 0, _, _, h1, h2 => by simp at h1 h2; simp [mkEs, h1, h2]
  | k :: ks, u :: us, s, j + 1, _, _, h1, h2 => by
    simp only [List.getElem?_cons_succ] at h1 h2
    have := mkEs_get (s := s + 1) h1 h2
    simp only [mkEs, List.getElem?_cons_succ, this]
    rw [show s + 1 + j = s + (j + 1) by omega]
  | [], _, _, _, _, _, h1, _ => by simp at h1
  | _ :: _, [], _, _, _, _, _, h2 => by simp at h2
theorem mkEs_mem : ∀ {ks us : List Value} {s : Nat} {e : MapEntry}, e ∈ mkEs s ks us → e.key ∈ ks ∧ s ≤ e.born ∧ e.born < s + ks.length ∧ ks[e.born - s]? = some e.key ∧ us[e.born - s]? = some e.val
  | [], _, _, _, h => by simp [mkEs] at h
  | _ :: _, [], _, _, h => by simp [mkEs] at h
  | k :: ks, u :: us, s, e, h => by
    simp only [mkEs, List.mem_cons] at h
    rcases h with rfl | h
    · simp
    · obtain ⟨h1, h2, h3, h4, h5⟩ := mkEs_mem h
      refine ⟨List.mem_cons_of_mem _ h1, by omega, by simp only [List.length_cons]; omega, ?_, ?_⟩
      · rw [show e.born - s = (e.born - (s + 1)) + 1 by omega]; simpa using h4
      · rw [show e.born - s = (e.born - (s + 1)) + 1 by omega]; simpa using h5
/-- the value of a key, if all of its cells are known -/
def AV.ex : AV → Option Value
  | .v u => some u
  | .agg cs => match exacts cs with
    | some us => some (.agg us.toArray)
    | none => none
  | _ => none
theorem Rel.ex {H : Cells} {a : AV} {v u : Value} (h : Rel H a v) (he : a.ex = some u) : v = u := by
  cases a with
  | v x => simp only [AV.ex, Option.some.injEq] at he; subst he; exact h.inv
  | agg cs =>
    obtain ⟨vs, rfl, hr⟩ := h.inv_agg
    simp only [AV.ex] at he
    split at he
    · rename_i us e; simp only [Option.some.injEq] at he; subst he; rw [hr.exact e]
    · cases he
  | _ => simp [AV.ex] at he
section
variable {P : Program} {T : Tr} {c : Ctx} {n : Cfg} {ops : Array Oper} {F : Fr} {L : List Ent} {H : Cells} {w : World}
variable {d : Option Tmp} {ty : TypeId} {pos : String} {aft : Array Edge} {R : AV → List Ent → Prop}
/-- entry i, a block that is no row of cells, put anew -/
theorem St.put {i g : Nat} {e e' : Ent} (o' : Obj) (h : St c H w L) (hL : L[i]? = some e) (ho : e.own = some g) (ho' : e'.own = some g) (hn : ∀ o, H g o = none) (he' : e'.In H c.w0.heap.size (w.putObj g o')) : St c H (w.putObj g o') (L.set i e') :=
  h.turn hL (hin_heap h.hin fun b o u hu => World.putObj_heap_other (fun e => by subst e; rw [hn o] at hu; cases hu)) he'
    ⟨rfl, rfl, rfl, by simp [World.putObj], fun k _ hk => World.putObj_heap_other (fun e => hk (by rw [e, ho]))⟩ (.inl (by rw [ho, ho'])) (Nat.le_refl _)
section
variable {α β : Type} {ek : α → Value} {ev : β → AV} {S : Value → Prop} {kt vt : TypeId} {l : List (α × β)} {g : Nat}
structure MapK (P : Program) (t kt vt : TypeId) (ek : α → Value) (S : Value → Prop) : Prop where
  und : P.underlying t = some (.map kt vt)
  key : KeyT P kt S
  all : ∀ x, S (ek x)
  inj : ∀ x y, ek x = ek y → x = y
theorem map_at {i : Nat} (hs : St c H w L) (hL : L[i]? = some (.mp g (encM ek ev l))) : ∃ us, w.heap[g]? = some (.map (mkEs 0 (l.map fun p => ek p.1) us).toArray l.length) ∧ RelL H (l.map fun p => ev p.2) us ∧ us.length = l.length ∧ (∀ o, H g o = none) ∧ c.w0.heap.size ≤ g := by
  obtain ⟨h1, us, h2, h3, h4⟩ := hs.holds _ (List.mem_of_getElem? hL)
  rw [encM_fst] at h2
  rw [encM_snd] at h3
  refine ⟨us, ?_, h3, ?_, h4, h1⟩
  · simpa [encM] using h2
  · have := h3.len; simpa using this.symm
theorem Eff.op {o : Op} (h : ∀ G H w a, (∀ x ∈ o.operands, oget n F x = oget n G x) → St c H w L → Fit H n G a → ∃ nx w' v r H' L', (execOp a.eval ⟨d, o, ty, pos, aft, none⟩).run P w = .ok nx w' ∧ ((nx = .value v) ∨ (nx = .skip ∧ v = undef)) ∧ H.le H' ∧ St c H' w' L' ∧ Rel H' r v ∧ R r L') : Eff P c n ops ⟨d, o, ty, pos, aft, none⟩ F L R :=
  ⟨fun G Q hag hk => Lx.op rfl fun H w a hs hF => by
    obtain ⟨nx, w', v, r, H', L', h1, h2, h3, h4, h5, h6⟩ := h G H w a (fun x hm => look_op hag hm) hs hF
    exact ⟨nx, w', v, r, H', L', h1, h2, h3, h4, h5, hk r L' h6⟩⟩
theorem run_getMap {es : Array MapEntry} {k : Nat} (h : w.heap[g]? = some (.map es k)) : (getObj g).run P w = .ok (.map es k) w := by simp [getObj, Sem.run, h]
/-! ranging over a map that stands still -/
theorem Eff.range {t : TypeId} {m : Operand} (hk : MapK P t kt vt ek S) (i : Nat) (hL : L[i]? = some (.mp g (encM ek ev l))) (hm : oget n F m = some (.v (.map (some g)))) :
    Eff P c n ops ⟨d, .range t m, ty, pos, aft, none⟩ F L fun r L' => ∃ q, r = .v (.pointer (some ⟨q, 0, none⟩)) ∧ L' = .obj q (.mapIter (some g) l.length #[] l.length) :: L :=
  Eff.op fun G H w a hag hs hF => by
    obtain ⟨us, h1, h2, h3, h4, h5⟩ := map_at hs hL
    have e1 := (hF.eval (by rw [← hag m (by simp [Op.operands])]; exact hm)).inv
    refine ⟨.value (.pointer (some ⟨w.heap.size, 0, none⟩)), w.alloc (.mapIter (some g) l.length #[] l.length), _, _, H, _, ?_, .inl rfl, Cells.le_refl _, hs.trans (St.newObj hs.hin _), .v _, ⟨_, rfl, rfl⟩⟩
    simp [execOp, e1, Instr.range, run_und hk.und, run_getMap h1, newObj]
    rfl
/-- the entries that a range has seen: seen, in their order -/
theorem Eff.next {q j c0 : Nat} {it : Operand} {seen : List Nat} (i : Nat) (hL : L[i]? = some (.mp g (encM ek ev l))) (hJ : L[j]? = some (.obj q (.mapIter (some g) l.length seen.toArray c0))) (hc : Nat.ble l.length c0 = true) (hm : oget n F it = some (.v (.pointer (some ⟨q, 0, none⟩)))) :
    Eff P c n ops ⟨d, .next it false, ty, pos, aft, none⟩ F L fun r L' => ((∀ k, k < l.length → k ∈ seen) ∧ r = .tup [B false] ∧ L' = L) ∨
      ∃ k p, l[k]? = some p ∧ k ∉ seen ∧ r = .tup [B true, .v (ek p.1), ev p.2] ∧ L' = L.set j (.obj q (.mapIter (some g) l.length (seen ++ [k]).toArray l.length)) :=
  Eff.op fun G H w a hag hs hF => by
    obtain ⟨us, h1, h2, h3, h4, h5⟩ := map_at hs hL
    obtain ⟨j1, j2, j3⟩ := hs.holds _ (List.mem_of_getElem? hJ)
    have e1 := (hF.eval (by rw [← hag it (by simp [Op.operands])]; exact hm)).inv
    have hks : (l.map fun p => ek p.1).length = l.length := by simp
    have hmem : ∀ x ∈ (mkEs 0 (l.map fun p => ek p.1) us).toArray.toList, x.born < l.length := fun x hx => by
      have := mkEs_mem (by simpa using hx)
      omega
    rcases run_next_at (P := P) w ty q g l.length c0 seen.toArray _ l.length j2 h1 hmem (Nat.le_of_ble_eq_true hc) with ⟨hz, hrun⟩ | ⟨e, he, w1, hw1, hrun⟩
    · refine ⟨_, w, _, .tup [B false], H, L, by simp [execOp, e1, hrun], .inl rfl, Cells.le_refl _, hs, .tup (.cons (.v _) .nil), .inl ⟨fun k hk => ?_, rfl, rfl⟩⟩
      have hu : k < us.length := by omega
      have hget := mkEs_get (s := 0) (j := k) (ks := l.map fun p => ek p.1) (us := us) (List.getElem?_eq_getElem (by simpa using hk)) (List.getElem?_eq_getElem hu)
      have hm2 := List.mem_of_getElem? hget
      have : leftOf (mkEs 0 (l.map fun p => ek p.1) us).toArray seen.toArray = #[] := Array.eq_empty_of_size_eq_zero hz
      unfold leftOf at this
      rw [Array.filter_eq_empty_iff] at this
      have := this _ (by simpa using hm2)
      simpa using this
    · have hel : e ∈ mkEs 0 (l.map fun p => ek p.1) us ∧ e.born ∉ seen := by
        unfold leftOf at he
        simpa using he
      obtain ⟨g1, g2, g3, g4, g5⟩ := mkEs_mem hel.1
      simp only [Nat.sub_zero] at g4 g5
      have hbl : e.born < l.length := by omega
      obtain ⟨p, hp⟩ : ∃ p, l[e.born]? = some p := ⟨_, List.getElem?_eq_getElem hbl⟩
      have hkey : e.key = ek p.1 := by
        rw [List.getElem?_map, hp] at g4
        simpa using g4.symm
      obtain ⟨u, hu, hru⟩ := h2.get (i := e.born) (c := ev p.2) (by simp [hp])
      rw [g5] at hu
      cases hu
      have hs1 : St c H w1 L := by
        rcases hw1 with rfl | rfl
        · exact hs
        · exact hs.drew
      have hst : St c H (w1.putObj q (.mapIter (some g) l.length (seen ++ [e.born]).toArray l.length)) (L.set j (.obj q (.mapIter (some g) l.length (seen ++ [e.born]).toArray l.length))) := by
        obtain ⟨k1, k2, k3⟩ := hs1.holds _ (List.mem_of_getElem? hJ)
        exact hs1.put (e' := .obj q (.mapIter (some g) l.length (seen ++ [e.born]).toArray l.length)) _ hJ rfl rfl k3 ⟨k1, World.putObj_heap_same (blk_lt k2), k3⟩
      rw [hkey] at hrun
      refine ⟨.value (.tuple #[.bool true, ek p.1, e.val]), _, _, .tup [B true, .v (ek p.1), ev p.2], H, _, ?_, .inl rfl, Cells.le_refl _, hst, .tup (.cons (.v _) (.cons (.v _) (.cons hru .nil))), .inr ⟨e.born, p, hp, hel.2, rfl, rfl⟩⟩
      simp [execOp, e1, hrun, Go.ChangeMaps.setBlock, World.putObj]
theorem Gr.entry {q j k : Nat} {it : Operand} {seen : List Nat} {p : α × β} (i : Nat) (hL : L[i]? = some (.mp g (encM ek ev l))) (hJ : L[j]? = some (.obj q (.mapIter (some g) l.length (seen ++ [k]).toArray l.length))) (hm : oget n F it = some (.v (.pointer (some ⟨q, 0, none⟩)))) (hp : l[k]? = some p) :
    Gr P c n (.entry it) ty F L (.tup [.v (ek p.1), ev p.2]) :=
  .pure fun H w ρ hs hr d pos aft _ => by
    obtain ⟨us, h1, h2, h3, h4, _⟩ := map_at hs hL
    obtain ⟨j1, j2, j3⟩ := hs.holds _ (List.mem_of_getElem? hJ)
    have e1 := hr.v (by simp [Op.operands]) hm
    obtain ⟨u, hu, hru⟩ := h2.get (i := k) (c := ev p.2) (by simp [hp])
    have hget := mkEs_get (s := 0) (j := k) (ks := l.map fun p => ek p.1) (us := us) (k := ek p.1) (u := u) (by simp [hp]) hu
    have hnd : ((mkEs 0 (l.map fun p => ek p.1) us).map (·.born)).Nodup := by
      have : ∀ (ks us : List Value) (s : Nat), ((mkEs s ks us).map (·.born)).Nodup := by
        intro ks
        induction ks with
        | nil => intro us s; simp [mkEs]
        | cons k ks ih =>
          intro us s
          cases us with
          | nil => simp [mkEs]
          | cons u us =>
            simp only [mkEs, List.map_cons, List.nodup_cons]
            refine ⟨fun hm => ?_, ih us (s + 1)⟩
            obtain ⟨e, he, hb⟩ := List.mem_map.1 hm
            have := mkEs_mem he
            omega
      exact this _ _ _
    have hrun := run_entry_at (P := P) w q g l.length seen.toArray (mkEs 0 (l.map fun p => ek p.1) us).toArray l.length ⟨ek p.1, u, 0 + k⟩ (by simpa using j2) h1 (by simpa using List.mem_of_getElem? hget) (by simpa using hnd)
    exact ⟨_, by simp [execOp, e1, hrun] <;> rfl, .tup (.cons (.v _) (.cons hru .nil))⟩
end
end
end Go.E2
namespace Go.E2
open Go.RowKit
abbrev chain1 (pv : Value) : List PanicEntry := [{ v := pv, recovered := false }]
/-- a call that returns where Φ holds, or panics with pv where Ψ holds -/
structure FnX (P : Program) (c : Ctx) (f : FuncId) (args : List AV) (L : List Ent) (pv : Value) (Φ : AV → List Ent → Prop) (Ψ : List Ent → Prop) : Prop where
  out : ∀ H w vs, St c H w L → RelL H args vs → Calls P f vs.toArray w fun e w' => ∃ H' L', H.le H' ∧ St c H' w' L' ∧ ((∃ v a, e = .returned v ∧ Φ a L' ∧ Rel H' a v) ∨ (e = .panicked (chain1 pv) ∧ Ψ L'))
theorem FnX.mono {P : Program} {c : Ctx} {f : FuncId} {args : List AV} {L : List Ent} {pv : Value} {Φ Φ' : AV → List Ent → Prop} {Ψ Ψ' : List Ent → Prop} (h : FnX P c f args L pv Φ Ψ) (h1 : ∀ a L, Φ a L → Φ' a L) (h2 : ∀ L, Ψ L → Ψ' L) : FnX P c f args L pv Φ' Ψ' :=
  ⟨fun H w vs hs hr => Calls.mono (h.out H w vs hs hr) fun _ _ ⟨H1, L1, g1, g2, g3⟩ => ⟨H1, L1, g1, g2, g3.imp (fun ⟨v, a, k1, k2, k3⟩ => ⟨v, a, k1, h1 _ _ k2, k3⟩) fun ⟨k1, k2⟩ => ⟨k1, h2 _ k2⟩⟩⟩
theorem FnX.front {P : Program} {c : Ctx} {f : FuncId} {args : List AV} {L : List Ent} {pv : Value} {Φ : AV → List Ent → Prop} {Ψ : List Ent → Prop} {en : Ent} (i : Nat) (hL : L[i]? = some en) (h : FnX P c f args (en :: L.eraseIdx i) pv Φ Ψ) : FnX P c f args L pv Φ Ψ := by
  refine ⟨fun H w vs hs hr => h.out H w vs (hs.perm ?_) hr⟩
  obtain ⟨hi, rfl⟩ := List.getElem?_eq_some_iff.1 hL
  rw [List.eraseIdx_eq_take_drop_succ]
  have := List.perm_middle (a := L[i]) (l₁ := L.take i) (l₂ := L.drop (i + 1))
  rwa [← List.drop_eq_getElem_cons hi, List.take_append_drop] at this
section
variable {P : Program} {c : Ctx} {m : Nat} {n : Cfg} {ops : Array Oper} {Q : Exit → Act → World → Prop} {F : Fr} {L : List Ent} {rest l : List Oper} {d : Option Tmp} {ty : TypeId} {pos : String} {aft : Array Edge}
theorem Yx.nil (h : Ex c n Q .normal F L) : Yx P c n ops Q [] F L := ⟨fun H w a hs hF _ => h.out H w a hs hF⟩
theorem Yx.ofLx (k : Nat) (hd : (l.take k).all (fun o => noDef o.op) = true) (h : ∀ K, Kyx P c n ops (l.drop k) Q K → Lx P c n ops K (l.take k) F L) : Yx P c n ops Q l F L :=
  ⟨fun H w a hs hF dd => by
    have := wpList_in (P := P) (ops := ops) (ro := n.ro) (d := dd) (Q := Q) (suf := l.drop k) (K := fun _ a w => wpListIn (wd n.ro) dd P ops Q (l.drop k) a w) (fun a w h => h) (l.take k)
      hd _ _ ((h _ ⟨fun F L k => ⟨fun H w a hs hF => k.out H w a hs hF dd⟩⟩).out H w a hs hF)
    rwa [List.take_append_drop] at this⟩
theorem Yx.callX {f : FuncId} {x : Operand} {xs : List Operand} {as1 as2 : List AV} {ts : Array TypeId} {pv : Value} {Φ : AV → List Ent → Prop} {Ψ : List Ent → Prop} (hf : EntersT P f) (hx : oget n F x = some (.v (.func (.func f) #[] #[]))) (hv : ogets n F xs = some as1) (hsb : SbL L as1 as2)
    (hc : FnX P c f as2 L pv Φ Ψ) (k : ∀ a L', Φ a L' → Yx P c n ops Q rest (putF d a F) L') (kp : ∀ L', Ψ L' → Ex c n Q (.panic (chain1 pv)) F L') :
    Yx P c n ops Q (⟨d, .call ⟨.value x, xs.toArray, ts⟩, ty, pos, aft, none⟩ :: rest) F L :=
  ⟨fun H w ac hst hF dd => by
    refine wpListIn_plain rfl fun K hK => ?_
    refine ⟨fun _ _ => trivial, ?_⟩
    rw [Oper.semAt_eq _ _ _ (fun c hc => by simp at hc)]
    have hr := hF.reads (Op.call ⟨.value x, xs.toArray, ts⟩).operands
    rw [run_call hf (hr.v (by simp [Op.operands, Call.operands]) hx), Oper.uponIn_enter]
    refine ⟨fun h => by simp [wd, Fence.wide] at h, callsIn_wd n.ro _ ?_⟩
    have h := hc.out H w (xs.map ac.eval) hst (hsb.rel hst (hr.list (fun y hy => by simp [Op.operands, Call.operands, hy]) hv))
    rw [show (#[] ++ (xs.map ac.eval).toArray ++ #[] : Array Value) = (xs.map ac.eval).toArray by simp]
    refine Calls.mono h ?_
    rintro e w' ⟨H', L', hl, hst', ⟨v, a, rfl, hp, hrel⟩ | ⟨rfl, hp⟩⟩
    · exact hK _ _ ((k a L' hp).out H' w' _ hst' ((hF.mono hl).put hrel d) dd)
    · exact (kp L' hp).out H' w' _ hst' (hF.mono hl)⟩
theorem Yx.panic {x : Operand} {pv : Value} (hx : oget n F x = some (.v pv)) (hr : ∀ w, (Instr.panic pv).run P w = .halt (.panic pv) w) (k : Ex c n Q (.panic (chain1 pv)) F L) : Yx P c n ops Q (⟨d, .panic x, ty, pos, aft, none⟩ :: rest) F L :=
  ⟨fun H w ac hst hF dd => by
    refine wpListIn_plain rfl fun K hK => ?_
    refine ⟨fun _ _ => trivial, ?_⟩
    rw [Oper.semAt_eq _ _ _ (fun c hc => by simp at hc)]
    have e := (hF.eval hx).inv
    simp [execOp, e, hr w, Oper.uponIn]
    exact k.out H w _ hst hF⟩
/-- a closure over cells, deferred -/
theorem Yx.defer {ds : List Deferred} {x : Operand} {fv : Go.Fn} {caps : Array Value} (hd : d = none) (hx : oget ⟨m, ds, none⟩ F x = some (.v (.func fv #[] caps))) (k : Yx P c ⟨m, ⟨.fn fv caps, #[]⟩ :: ds, none⟩ ops Q rest F L) :
    Yx P c ⟨m, ds, none⟩ ops Q (⟨d, .defer ⟨.value x, #[], #[]⟩, ty, pos, aft, none⟩ :: rest) F L :=
  ⟨fun H w ac hst hF dd => by
    subst hd
    refine wpListIn_plain rfl fun K hK => ?_
    refine ⟨fun _ _ => trivial, ?_⟩
    have e := (hF.eval hx).inv
    have hr : (execOp ac.eval ⟨none, .defer ⟨.value x, #[], #[]⟩, ty, pos, aft, none⟩).run P w = .ok (.defer ⟨.fn fv caps, #[]⟩) w := by
      simp [execOp, resolve, e, Deferred.ofValue]
    show Oper.uponIn _ _ _ _ _ _ _ ((Oper.semAt none ac.eval _).run P w)
    rw [Oper.semAt_none, hr, Oper.uponIn_defer]
    exact hK ⟨ac.tmps, ⟨.fn fv caps, #[]⟩ :: ac.defers⟩ w (k.out H w ⟨ac.tmps, ⟨.fn fv caps, #[]⟩ :: ac.defers⟩ hst ⟨by rw [hF.ds], hF.size, hF.rel⟩ dd)⟩
end
/-! as code -/
def stopO (fs : List Nat) : Op → Bool
  | .call ⟨.value (.func f), _, _⟩ => memB f fs
  | .call ⟨.value (.tmp _), _, _⟩ => true
  | .panic _ => true
  | .defer _ => true
  | _ => false
def stopIx (fs : List Nat) : List Oper → Nat
  | [] => 0
  | o :: l => cond (stopO fs o.op) 0 (stopIx fs l + 1)
theorem stop_noDef (fs : List Nat) : ∀ l : List Oper, (l.take (stopIx fs l)).all (fun o => noDef o.op) = true
  | [] => rfl
  | o :: l => by
    unfold stopIx
    cases h : stopO fs o.op with
    | true => rfl
    | false =>
      simp only [cond_false, List.take_succ_cons, List.all_cons, Bool.and_eq_true]
      refine ⟨?_, stop_noDef fs l⟩
      unfold stopO at h
      unfold noDef
      split at h <;> simp_all
structure XK (P : Program) (T : Tr) (fs : List Nat) (c : Ctx) (m : Nat) (ro : Option Nat) (ops : Array Oper) (K : KT) (ds : List Deferred) (l : List Oper) (F : Fr) (L : List Ent) : Prop where
  out : ∀ Q, (∀ ds e F L, K ds e F L → Ex c ⟨m, ds, ro⟩ Q e F L) → Yx P c ⟨m, ds, ro⟩ ops Q l F L
section
variable {P : Program} {T : Tr} {fs : List Nat} {c : Ctx} {m : Nat} {ro : Option Nat} {ops : Array Oper} {K : KT} {ds : List Deferred} {F : Fr} {L : List Ent} {rest l : List Oper} {d : Option Tmp} {ty : TypeId} {pos : String} {aft : Array Edge}
theorem XK.nil (h : K ds .normal F L) : XK P T fs c m ro ops K ds [] F L := ⟨fun _ hQ => Yx.nil (hQ _ _ _ _ h)⟩
theorem XK.more [TabOK P T] (h : wpl P T c ⟨m, ds, ro⟩ ops (fun F L => XK P T fs c m ro ops K ds (l.drop (stopIx fs l)) F L) (l.take (stopIx fs l)) F L) : XK P T fs c m ro ops K ds l F L :=
  ⟨fun Q hQ => Yx.ofLx (stopIx fs l) (stop_noDef fs l) fun K' hK => (wpl_out h).out K' fun F L hx => hK.norm F L (hx.out Q hQ)⟩
theorem XK.call [TabOK P T] {f : FuncId} {x : Operand} {xs : List Operand} {as1 as2 : List AV} {ts : Array TypeId} {pv : Value} {Φ : AV → List Ent → Prop} {Ψ : List Ent → Prop} (hf : EntersT P f) (hc : FnX P c f as2 L pv Φ Ψ) (hx : oget ⟨m, ds, ro⟩ F x = some (.v (.func (.func f) #[] #[]))) (hv : ogets ⟨m, ds, ro⟩ F xs = some as1) (hsb : SbL L as1 as2)
    (k : ∀ a L', Φ a L' → putK d a F fun F => wpl P T c ⟨m, ds, ro⟩ ops (fun F L => XK P T fs c m ro ops K ds (rest.drop (stopIx fs rest)) F L) (rest.take (stopIx fs rest)) F L') (kp : ∀ L', Ψ L' → K ds (.panic (chain1 pv)) F L') :
    XK P T fs c m ro ops K ds (⟨d, .call ⟨.value x, xs.toArray, ts⟩, ty, pos, aft, none⟩ :: rest) F L :=
  ⟨fun Q hQ => Yx.callX hf hx hv hsb hc (fun a L' hp => (XK.more (fs := fs) (putK_out (k a L' hp))).out Q hQ) fun L' hp => hQ _ _ _ _ (kp L' hp)⟩
theorem XK.panic {x : Operand} {pv : Value} (hx : oget ⟨m, ds, ro⟩ F x = some (.v pv)) (hr : ∀ w, (Instr.panic pv).run P w = .halt (.panic pv) w) (k : K ds (.panic (chain1 pv)) F L) : XK P T fs c m ro ops K ds (⟨d, .panic x, ty, pos, aft, none⟩ :: rest) F L :=
  ⟨fun _ hQ => Yx.panic hx hr (hQ _ _ _ _ k)⟩
theorem XK.defer [TabOK P T] {x : Operand} {fv : Go.Fn} {caps : Array Value} (hx : oget ⟨m, ds, none⟩ F x = some (.v (.func fv #[] caps)))
    (k : wpl P T c ⟨m, ⟨.fn fv caps, #[]⟩ :: ds, none⟩ ops (fun F L => XK P T fs c m none ops K (⟨.fn fv caps, #[]⟩ :: ds) (rest.drop (stopIx fs rest)) F L) (rest.take (stopIx fs rest)) F L) :
    XK P T fs c m none ops K ds (⟨none, .defer ⟨.value x, #[], #[]⟩, ty, pos, aft, none⟩ :: rest) F L :=
  ⟨fun Q hQ => Yx.defer rfl hx ((XK.more (fs := fs) k).out Q hQ)⟩
end
/-! functions that may panic -/
section
variable {P : Program} {T : Tr} {c : Ctx} {m : Nat} {F : Fr} {L : List Ent} {H : Cells} {w : World} {ds : List Deferred}
structure PanX (L : List Ent) (Ψ : List Ent → Prop) : Prop where
  out : ∃ L', L'.Sublist L ∧ Ψ L'
theorem PanX.of {Ψ : List Ent → Prop} (L' : List Ent) (hs : L'.Sublist L) (h : Ψ L') : PanX L Ψ := ⟨L', hs, h⟩
/-! deferred calls -/
structure FnDf (P : Program) (c : Ctx) (f : FuncId) (vs : Array Value) (u : FrameMode) (L : List Ent) (Φ : FrameMode → List Ent → Prop) : Prop where
  out : ∀ H w, St c H w L → CallsD P f vs u w fun e u' w' => (∃ v, e = .returned v) ∧ ∃ H' L', H.le H' ∧ St c H' w' L' ∧ Φ u' L'
structure Dfr (P : Program) (c : Ctx) (d : Deferred) (u : FrameMode) (L : List Ent) (k : List Ent → Prop) : Prop where
  out : ∃ fv cap f vs Φ, d.target = .fn fv cap ∧ (∀ w, (invoke d.target d.args).run P w = .ok (.enter f vs) w) ∧ FnDf P c f vs u L Φ ∧ ∀ u' L', Φ u' L' → settle u' = .returning ∧ k L'
theorem Dfr.of {fv : Go.Fn} {caps vs : Array Value} {f : FuncId} {u : FrameMode} {k : List Ent → Prop} {Φ : FrameMode → List Ent → Prop} (hi : ∀ w, (invoke (.fn fv caps) #[]).run P w = .ok (.enter f vs) w) (hc : FnDf P c f vs u L Φ) (hk : ∀ u' L', Φ u' L' → settle u' = .returning ∧ k L') : Dfr P c ⟨.fn fv caps, #[]⟩ u L k :=
  ⟨fv, caps, f, vs, Φ, rfl, hi, hc, hk⟩
end
end Go.E2
