/-
  The engine, second make, part C: one rule for each operation that leaves the local heap alone.
  Conditions: none beyond the premises of each rule.
-/
import Derived.Test.YtlnokdkhglmogaaGreatE3B
namespace Go.E2
open Go.RowKit

/-! facts on types -/
def isAggD : TypeDesc → Bool
  | .struct _ => true
  | .array _ _ => true
  | _ => false
structure OneT (P : Program) (t : TypeId) : Prop where
  und : ∃ d, P.underlying t = some d ∧ isAggD d = false
  size : (P.info? t).map (·.size) = some 1
structure AggT (P : Program) (t : TypeId) (k : Nat) : Prop where
  und : ∃ d, P.underlying t = some d ∧ isAggD d = true
  size : (P.info? t).map (·.size) = some k
structure SlcT (P : Program) (t e : TypeId) (k : Nat) : Prop where
  und : P.underlying t = some (.slice e)
  size : (P.info? e).map (·.size) = some k
structure ArrT (P : Program) (t : TypeId) (len : Nat) (e : TypeId) (k : Nat) : Prop where
  und : P.underlying t = some (.array len e)
  size : (P.info? e).map (·.size) = some k
/-- field i of struct s lies at offset off -/
structure FldT (P : Program) (s i off : Nat) : Prop where
  out : ∃ fs f, P.underlying s = some (.struct fs) ∧ fs[i]? = some f ∧ f.offset = off ∧ (P.info? f.type).map (fun x => decide (x.size = 0)) = some false
structure ZeroT (P : Program) (t : TypeId) (cs : List Value) : Prop where
  out : ∃ z, (P.info? t).bind (·.zero) = some z ∧ z.cells.toList = cs
def EntersT (P : Program) (f : FuncId) : Prop := ∀ args w, (callFunc f args).run P w = .ok (.enter f args) w
theorem enters_of {P : Program} {f : FuncId} {fn : Func} {c : Code} {s : String} (hf : P.funcs[f]? = some fn) (hs : fn.name = s) (hn : ¬ s = "runtime.NumGoroutine") (hb : fn.body = some c) : EntersT P f := by
  intro args w
  have h1 : fn.name ≠ "runtime.NumGoroutine" := by rw [hs]; exact hn
  simp [callFunc, hf, h1, hb, mark]
theorem run_sizeOf' {P : Program} {t : TypeId} {k : Nat} (h : (P.info? t).map (·.size) = some k) (w : World) : (sizeOf t).run P w = .ok k w := by
  cases hi : P.info? t with
  | none => rw [hi] at h; cases h
  | some i =>
    rw [hi] at h
    simp at h
    simp [sizeOf, typeInfo, hi, h]
theorem run_und {P : Program} {t : TypeId} {d : TypeDesc} (h : P.underlying t = some d) (w : World) : (underlying t).run P w = .ok d w := by
  simp [underlying, h]
theorem run_isAgg_f {P : Program} {t : TypeId} (h : OneT P t) (w : World) : (isAgg t).run P w = .ok false w := by
  obtain ⟨d, hd, ha⟩ := h.und
  simp only [isAgg, Sem.run_bind, run_und hd, Result.andThen_ok]
  cases d <;> simp_all [isAggD]
theorem run_isAgg_t {P : Program} {t : TypeId} {k : Nat} (h : AggT P t k) (w : World) : (isAgg t).run P w = .ok true w := by
  obtain ⟨d, hd, ha⟩ := h.und
  simp only [isAgg, Sem.run_bind, run_und hd, Result.andThen_ok]
  cases d <;> simp_all [isAggD]
theorem run_eql_bool {P : Program} {t : TypeId} (hh : ∀ c e w, (Op.equal t (.bool c) (.bool e)).run P w = .ok (c == e) w) (c e : Bool) (w : World) : (binOp .eql t (.bool c) (.bool e)).run P w = .ok (.bool (c == e)) w ∧ (binOp .neq t (.bool c) (.bool e)).run P w = .ok (.bool (c != e)) w := by
  constructor
  · show (Sem.run P (do pure (.bool (← Op.equal t (.bool c) (.bool e)))) w : Result Value) = _
    rw [Sem.run_bind, hh]; rfl
  · show (Sem.run P (do pure (.bool (!(← Op.equal t (.bool c) (.bool e))))) w : Result Value) = _
    rw [Sem.run_bind, hh]
    cases c <;> cases e <;> rfl
theorem run_equal_bool {P : Program} {t : TypeId} (ht : P.underlying t = some .bool) (c e : Bool) (w : World) : (Op.equal t (.bool c) (.bool e)).run P w = .ok (c == e) w := by
  unfold Op.equal
  rw [show Op.maxDepth = (Op.maxDepth - 1) + 1 from rfl]
  simp only [Op.equalIn, Sem.run_bind, run_und ht, Result.andThen_ok]
  rfl
theorem run_eqGuard_str {P : Program} (op : BinOp) (t : TypeId) (o1 o2 : Operand) (x y : ByteArray) (w : World) : (eqGuard op t o1 o2 (.string x) (.string y)).run P w = .ok () w := by
  unfold eqGuard
  by_cases h : (!(op matches .eql | .neq)) = true
  · simp []
  · simp []
/-- of one cell -/
def AV.one : AV → Bool
  | .agg _ => false
  | .tup _ => false
  | .opt _ _ => false
  | .v (.agg _) => false
  | .v (.tuple _) => false
  | _ => true
/-- neither a tuple nor a whole that is hidden -/
def AV.ok : AV → Bool
  | .tup _ => false
  | .opt _ _ => false
  | .v (.agg _) => false
  | .v (.tuple _) => false
  | _ => true
theorem Rel.cells {H : Cells} {a : AV} {v : Value} (h : Rel H a v) (ho : a.ok = true) : RelL H a.cells v.cells.toList := by
  cases h with
  | v => cases v <;> first | (simp [AV.ok] at ho; done) | exact .cons (.v _) .nil
  | agg h => simpa [AV.cells, Value.cells] using h
  | tup h => simp [AV.ok] at ho
  | sl0 h => exact .cons (.sl0 h) .nil
  | sl h h1 h2 => exact .cons (.sl h h1 h2) .nil
  | fp h => exact .cons (.fp h) .nil
  | fn h => exact .cons (.fn h) .nil
  | opt h h' => simp [AV.ok] at ho
theorem Rel.one {H : Cells} {a : AV} {v : Value} (h : Rel H a v) (ho : a.one = true) : v.oneCell' = true ∧ v.cells = #[v] ∧ a.cells = [a] := by
  cases h with
  | v => cases v <;> simp_all [AV.one, Value.oneCell', Value.cells, AV.cells]
  | agg h => simp [AV.one] at ho
  | tup h => simp [AV.one] at ho
  | opt h h' => simp [AV.one] at ho
  | _ => simp [Value.oneCell', Value.cells, AV.cells]
theorem RelL.oneAll {H : Cells} : ∀ {as : List AV} {vs : List Value}, RelL H as vs → (as.all AV.one) = true → ∀ v ∈ vs, v.oneCell' = true
  | _, _, .nil, _ => by simp
  | _, _, .cons h t, ho => by
    simp only [List.all_cons, Bool.and_eq_true] at ho
    intro v hv
    rcases List.mem_cons.1 hv with rfl | hv
    · exact (h.one ho.1).1
    · exact RelL.oneAll t ho.2 v hv

section ops
variable {P : Program} {c : Ctx} {n : Cfg} {F : Fr} {L : List Ent} {ty : TypeId} {H : Cells} {ρ : Operand → Value}
theorem Reads.v {xs : Array Operand} {x : Operand} {u : Value} (h : Reads H n F xs ρ) (hm : x ∈ xs) (hx : oget n F x = some (.v u)) : ρ x = u := (h x hm _ hx).inv
theorem Gr.move {x : Operand} {a : AV} (h : oget n F x = some a) : Gr P c n (.move x) ty F L a := .pure fun H w ρ _ hr d pos aft g => ⟨_, by simp [execOp], hr x (by simp [Op.operands]) _ h⟩
theorem Gr.assign {x : Operand} {a : AV} (h : oget n F x = some a) : Gr P c n (.assign x) ty F L a := .pure fun H w ρ _ hr d pos aft g => ⟨_, by simp [execOp], hr x (by simp [Op.operands]) _ h⟩
theorem Gr.pick_t {b x y : Operand} {a : AV} (hc : oget n F b = some (.v (.bool true))) (h : oget n F x = some a) : Gr P c n (.pick b x y) ty F L a :=
  .pure fun H w ρ _ hr d pos aft g => ⟨_, by simp [execOp, hr.v (by simp [Op.operands]) hc, asBool], hr x (by simp [Op.operands]) _ h⟩
theorem Gr.pick_f {b x y : Operand} {a : AV} (hc : oget n F b = some (.v (.bool false))) (h : oget n F y = some a) : Gr P c n (.pick b x y) ty F L a :=
  .pure fun H w ρ _ hr d pos aft g => ⟨_, by simp [execOp, hr.v (by simp [Op.operands]) hc, asBool], hr y (by simp [Op.operands]) _ h⟩
section
variable {x y : Operand} {a b : Int} {t t' : TypeId} {k : IntKind}
theorem Gr.addW (hx : oget n F x = some (.v (.int k a))) (hy : oget n F y = some (.v (.int k b))) : Gr P c n (.binOp .add t x y t') ty F L (.v (.int k (k.wrap (a + b)))) :=
  .pure fun H w ρ _ hr d pos aft g => ⟨_, by simp [execOp, hr.v (by simp [Op.operands]) hx, hr.v (by simp [Op.operands]) hy, eqGuard_add, binOp_add, Op.intArith] <;> rfl, .v _⟩
theorem Gr.subW (hx : oget n F x = some (.v (.int k a))) (hy : oget n F y = some (.v (.int k b))) : Gr P c n (.binOp .sub t x y t') ty F L (.v (.int k (k.wrap (a - b)))) :=
  .pure fun H w ρ _ hr d pos aft g => ⟨_, by simp [execOp, hr.v (by simp [Op.operands]) hx, hr.v (by simp [Op.operands]) hy, eqGuard_sub, binOp_sub, Op.intArith] <;> rfl, .v _⟩
theorem Gr.mulW (hx : oget n F x = some (.v (.int k a))) (hy : oget n F y = some (.v (.int k b))) : Gr P c n (.binOp .mul t x y t') ty F L (.v (.int k (k.wrap (a * b)))) :=
  .pure fun H w ρ _ hr d pos aft g => ⟨_, by simp [execOp, hr.v (by simp [Op.operands]) hx, hr.v (by simp [Op.operands]) hy, eqGuard_mul, binOp_mul, Op.intArith] <;> rfl, .v _⟩
theorem Gr.add (hx : oget n F x = some (.v (.int .i64 a))) (hy : oget n F y = some (.v (.int .i64 b))) (hr : -9223372036854775808 ≤ a + b ∧ a + b ≤ 9223372036854775807) : Gr P c n (.binOp .add t x y t') ty F L (I (a + b)) :=
  (Gr.addW hx hy).ofEq (by rw [IntWalk.i64_in _ hr])
theorem Gr.sub (hx : oget n F x = some (.v (.int .i64 a))) (hy : oget n F y = some (.v (.int .i64 b))) (hr : -9223372036854775808 ≤ a - b ∧ a - b ≤ 9223372036854775807) : Gr P c n (.binOp .sub t x y t') ty F L (I (a - b)) :=
  (Gr.subW hx hy).ofEq (by rw [IntWalk.i64_in _ hr])
theorem Gr.mul (hx : oget n F x = some (.v (.int .i64 a))) (hy : oget n F y = some (.v (.int .i64 b))) (hr : -9223372036854775808 ≤ a * b ∧ a * b ≤ 9223372036854775807) : Gr P c n (.binOp .mul t x y t') ty F L (I (a * b)) :=
  (Gr.mulW hx hy).ofEq (by rw [IntWalk.i64_in _ hr])
theorem Gr.quo (hx : oget n F x = some (.v (.int .i64 a))) (hy : oget n F y = some (.v (.int .i64 b))) (hb : b ≠ 0) (hr : -9223372036854775808 ≤ a.tdiv b ∧ a.tdiv b ≤ 9223372036854775807) : Gr P c n (.binOp .quo t x y t') ty F L (I (a.tdiv b)) :=
  .pure fun H w ρ _ hr' d pos aft g => ⟨_, by simp [execOp, hr'.v (by simp [Op.operands]) hx, hr'.v (by simp [Op.operands]) hy, eqGuard_quo, binOp_quo, Op.intDiv, hb, IntWalk.i64_in _ hr] <;> rfl, .v _⟩
theorem Gr.quoN (hx : oget n F x = some (.v (.int .i64 a))) (hy : oget n F y = some (.v (.int .i64 b))) (h0 : 0 ≤ a) (h1 : 1 ≤ b) (hr : a ≤ 9223372036854775807) : Gr P c n (.binOp .quo t x y t') ty F L (I (a / b)) := by
  have e := Int.tdiv_eq_ediv_of_nonneg (b := b) h0
  have h2 := Int.ediv_nonneg h0 (by omega : 0 ≤ b)
  have h3 := Int.ediv_le_self b h0
  exact (Gr.quo hx hy (by omega) (by rw [e]; omega)).ofEq (by rw [e])
theorem Gr.rem (hx : oget n F x = some (.v (.int k a))) (hy : oget n F y = some (.v (.int k b))) (hb : b ≠ 0) : Gr P c n (.binOp .rem t x y t') ty F L (.v (.int k (a.tmod b))) :=
  .pure fun H w ρ _ hr' d pos aft g => ⟨_, by simp [execOp, hr'.v (by simp [Op.operands]) hx, hr'.v (by simp [Op.operands]) hy, eqGuard_rem, binOp_rem, Op.intDiv, hb] <;> rfl, .v _⟩
theorem Gr.remN (hx : oget n F x = some (.v (.int k a))) (hy : oget n F y = some (.v (.int k b))) (h0 : 0 ≤ a) (h1 : 1 ≤ b) : Gr P c n (.binOp .rem t x y t') ty F L (.v (.int k (a % b))) :=
  (Gr.rem hx hy (by omega)).ofEq (by rw [Int.tmod_eq_emod_of_nonneg h0])
theorem Gr.lss (hx : oget n F x = some (.v (.int k a))) (hy : oget n F y = some (.v (.int k b))) : Gr P c n (.binOp .lss t x y t') ty F L (B (decide (a < b))) :=
  .pure fun H w ρ _ hr' d pos aft g => ⟨_, by simp [execOp, hr'.v (by simp [Op.operands]) hx, hr'.v (by simp [Op.operands]) hy, eqGuard_lss, binOp_lss] <;> rfl, .v _⟩
theorem Gr.leq (hx : oget n F x = some (.v (.int k a))) (hy : oget n F y = some (.v (.int k b))) : Gr P c n (.binOp .leq t x y t') ty F L (B (decide (a ≤ b))) :=
  .pure fun H w ρ _ hr' d pos aft g => ⟨_, by simp [execOp, hr'.v (by simp [Op.operands]) hx, hr'.v (by simp [Op.operands]) hy, eqGuard_leq, binOp_leq] <;> rfl, .v _⟩
theorem Gr.gtr (hx : oget n F x = some (.v (.int k a))) (hy : oget n F y = some (.v (.int k b))) : Gr P c n (.binOp .gtr t x y t') ty F L (B (decide (b < a))) :=
  .pure fun H w ρ _ hr' d pos aft g => ⟨_, by simp [execOp, hr'.v (by simp [Op.operands]) hx, hr'.v (by simp [Op.operands]) hy, eqGuard_gtr, binOp_gtr] <;> rfl, .v _⟩
theorem Gr.geq (hx : oget n F x = some (.v (.int k a))) (hy : oget n F y = some (.v (.int k b))) : Gr P c n (.binOp .geq t x y t') ty F L (B (decide (b ≤ a))) :=
  .pure fun H w ρ _ hr' d pos aft g => ⟨_, by simp [execOp, hr'.v (by simp [Op.operands]) hx, hr'.v (by simp [Op.operands]) hy, eqGuard_geq, binOp_geq] <;> rfl, .v _⟩
theorem Gr.eql (hx : oget n F x = some (.v (.int k a))) (hy : oget n F y = some (.v (.int k b))) : Gr P c n (.binOp .eql t x y t') ty F L (B (decide (a = b))) :=
  .pure fun H w ρ _ hr' d pos aft g => ⟨.bool (decide (a = b)), by simp [execOp, hr'.v (by simp [Op.operands]) hx, hr'.v (by simp [Op.operands]) hy, eqGuard_at_int, binOp_eql] <;> rfl, .v _⟩
theorem Gr.neq (hx : oget n F x = some (.v (.int k a))) (hy : oget n F y = some (.v (.int k b))) : Gr P c n (.binOp .neq t x y t') ty F L (B (decide (a ≠ b))) :=
  .pure fun H w ρ _ hr' d pos aft g => ⟨.bool (decide (a ≠ b)), by simp [execOp, hr'.v (by simp [Op.operands]) hx, hr'.v (by simp [Op.operands]) hy, eqGuard_at_int, binOp_neq] <;> rfl, .v _⟩
theorem Gr.eqlB {p q : Bool} (ht : P.underlying t = some .bool) (hx : oget n F x = some (.v (.bool p))) (hy : oget n F y = some (.v (.bool q))) : Gr P c n (.binOp .eql t x y t') ty F L (B (p == q)) :=
  .pure fun H w ρ _ hr' d pos aft g => ⟨.bool (p == q), by simp [execOp, hr'.v (by simp [Op.operands]) hx, hr'.v (by simp [Op.operands]) hy, eqGuard_at_bool, (run_eql_bool (run_equal_bool ht) p q w).1], .v _⟩
theorem Gr.neqB {p q : Bool} (ht : P.underlying t = some .bool) (hx : oget n F x = some (.v (.bool p))) (hy : oget n F y = some (.v (.bool q))) : Gr P c n (.binOp .neq t x y t') ty F L (B (p != q)) :=
  .pure fun H w ρ _ hr' d pos aft g => ⟨.bool (p != q), by simp [execOp, hr'.v (by simp [Op.operands]) hx, hr'.v (by simp [Op.operands]) hy, eqGuard_at_bool, (run_eql_bool (run_equal_bool ht) p q w).2], .v _⟩
theorem Gr.not {p : Bool} (hx : oget n F x = some (.v (.bool p))) : Gr P c n (.unOp .not t x) ty F L (B (!p)) :=
  .pure fun H w ρ _ hr' d pos aft g => ⟨_, by simp [execOp, hr'.v (by simp [Op.operands]) hx, Op.unary] <;> rfl, .v _⟩
theorem Gr.negW (hx : oget n F x = some (.v (.int k a))) : Gr P c n (.unOp .neg t x) ty F L (.v (.int k (k.wrap (-a)))) :=
  .pure fun H w ρ _ hr' d pos aft g => ⟨_, by simp [execOp, hr'.v (by simp [Op.operands]) hx, Op.unary, Op.intArith] <;> rfl, .v _⟩
theorem Gr.neg (hx : oget n F x = some (.v (.int .i64 a))) (hr : -9223372036854775808 ≤ -a ∧ -a ≤ 9223372036854775807) : Gr P c n (.unOp .neg t x) ty F L (I (-a)) :=
  (Gr.negW hx).ofEq (by rw [IntWalk.i64_in _ hr])
/-! strings -/
theorem Gr.eqlT {p q : ByteArray} (hx : oget n F x = some (.v (.string p))) (hy : oget n F y = some (.v (.string q))) : Gr P c n (.binOp .eql t x y t') ty F L (B (p.toList == q.toList)) :=
  .pure fun H w ρ _ hr' d pos aft g => ⟨.bool (p.toList == q.toList), by simp [execOp, hr'.v (by simp [Op.operands]) hx, hr'.v (by simp [Op.operands]) hy, run_eqGuard_str, binOp, Op.stringOp], .v _⟩
theorem Gr.neqT {p q : ByteArray} (hx : oget n F x = some (.v (.string p))) (hy : oget n F y = some (.v (.string q))) : Gr P c n (.binOp .neq t x y t') ty F L (B (!(p.toList == q.toList))) :=
  .pure fun H w ρ _ hr' d pos aft g => ⟨.bool (!(p.toList == q.toList)), by simp [execOp, hr'.v (by simp [Op.operands]) hx, hr'.v (by simp [Op.operands]) hy, run_eqGuard_str, binOp, Op.stringOp], .v _⟩
theorem Gr.lssT {p q : ByteArray} (hx : oget n F x = some (.v (.string p))) (hy : oget n F y = some (.v (.string q))) : Gr P c n (.binOp .lss t x y t') ty F L (B (Op.bytesLess p.toList q.toList)) :=
  .pure fun H w ρ _ hr' d pos aft g => ⟨.bool (Op.bytesLess p.toList q.toList), by simp [execOp, hr'.v (by simp [Op.operands]) hx, hr'.v (by simp [Op.operands]) hy, run_eqGuard_str, binOp, Op.stringOp], .v _⟩
theorem Gr.lenT {p : ByteArray} (ht : P.underlying t = some .string) (hx : oget n F x = some (.v (.string p))) : Gr P c n (.call ⟨.builtin .len, #[x], #[t]⟩) ty F L (I p.size) :=
  .pure fun H w ρ _ hr' d pos aft g => ⟨.int .i64 p.size, by simp [execOp, resolve, invoke, builtin, hr'.v (by simp [Op.operands, Call.operands]) hx, Builtin.len_, run_und ht, goInt], .v _⟩
theorem Gr.idxT {p : ByteArray} {q : IntKind} {u : UInt8} (ht : P.underlying t = some .string) (hx : oget n F x = some (.v (.string p))) (hy : oget n F y = some (.v (.int q a))) (h0 : 0 ≤ a) (hu : p[a.toNat]? = some u) : Gr P c n (.index t x y) ty F L (.v (.int .u8 u.toNat)) :=
  .pure fun H w ρ _ hr' d pos aft g => ⟨.int .u8 u.toNat, by simp [execOp, hr'.v (by simp [Op.operands]) hx, hr'.v (by simp [Op.operands]) hy, Instr.index, asIntOf, run_und ht, h0, hu], .v _⟩
end
theorem Gr.extract {x : Operand} {as : List AV} {i : Nat} {a : AV} (hx : oget n F x = some (.tup as)) (hv : as[i]? = some a) : Gr P c n (.extract x i) ty F L a :=
  .pure fun H w ρ _ hr d pos aft g => by
    obtain ⟨vs, e, h⟩ := (hr x (by simp [Op.operands]) _ hx).inv_tup
    obtain ⟨v, h1, h2⟩ := h.get hv
    exact ⟨v, by simp [execOp, e, Instr.extract, h1], h2⟩
theorem Gr.conv {src dst : TypeId} {x : Operand} {q k : IntKind} {a : Int} (hs : (P.underlying src).isSome = true) (hd : P.underlying dst = some (.int k)) (hx : oget n F x = some (.v (.int q a))) : Gr P c n (.convert src dst x) ty F L (.v (.int k (k.wrap a))) :=
  .pure fun H w ρ _ hr d pos aft _ => by
    obtain ⟨dd, hd'⟩ := Option.isSome_iff_exists.mp hs
    exact ⟨_, by simp [execOp, hr.v (by simp [Op.operands]) hx, convert, run_und hd', run_und hd, Conv.intToInt] <;> rfl, .v _⟩
theorem Gr.toI {src dst : TypeId} {x : Operand} {q : IntKind} {a : Int} (hs : (P.underlying src).isSome = true) (hd : P.underlying dst = some (.int .i64)) (hx : oget n F x = some (.v (.int q a))) (hr : -9223372036854775808 ≤ a ∧ a ≤ 9223372036854775807) : Gr P c n (.convert src dst x) ty F L (I a) :=
  (Gr.conv hs hd hx).ofEq (by rw [IntWalk.i64_in _ hr])
theorem Gr.toU {src dst : TypeId} {x : Operand} {q : IntKind} {a : Int} (hs : (P.underlying src).isSome = true) (hd : P.underlying dst = some (.int .u64)) (hx : oget n F x = some (.v (.int q a))) (hr : 0 ≤ a ∧ a ≤ 9223372036854775807) : Gr P c n (.convert src dst x) ty F L (.v (.int .u64 a)) :=
  (Gr.conv hs hd hx).ofEq (by
    have : IntKind.u64.wrap a = a := by simp [IntKind.wrap, IntKind.bits, IntKind.signed]; omega
    rw [this])
theorem Gr.shr1 {t t' : TypeId} {x y : Operand} {q : IntKind} {a : Int} (hx : oget n F x = some (.v (.int .u64 a))) (hy : oget n F y = some (.v (.int q 1))) : Gr P c n (.binOp .shr t x y t') ty F L (.v (.int .u64 (a / 2))) :=
  .pure fun H w ρ _ hr d pos aft g => ⟨_, by simp [execOp, hr.v (by simp [Op.operands]) hx, hr.v (by simp [Op.operands]) hy, eqGuard_shr, binOp_shr, shift_shr .u64 q a 1 (by omega) (by decide)] <;> rfl, .v _⟩
theorem Gr.nilP {x : Operand} {a : Addr} (hx : oget n F x = some (.v (.pointer (some a)))) : Gr P c n (.nilCheck x) ty F L (.v (.pointer (some a))) :=
  .pure fun H w ρ _ hr d pos aft _ => ⟨_, by simp [execOp, hr.v (by simp [Op.operands]) hx] <;> rfl, .v _⟩
theorem Gr.nilF {x : Operand} {cs : List AV} {off : Nat} (hx : oget n F x = some (.fp cs off)) : Gr P c n (.nilCheck x) ty F L (.fp cs off) :=
  .pure fun H w ρ _ hr d pos aft _ => by
    have h := hr x (by simp [Op.operands]) _ hx
    obtain ⟨b, o, e, h2⟩ := h.inv_fp
    exact ⟨_, by simp [execOp, e] <;> rfl, by rw [← e]; exact h⟩
theorem Gr.max2 {x y : Operand} {a b : Int} {k : IntKind} {ts : Array TypeId} (hx : oget n F x = some (.v (.int k a))) (hy : oget n F y = some (.v (.int k b))) : Gr P c n (.call ⟨.builtin .max, #[x, y], ts⟩) ty F L (.v (.int k (max a b))) :=
  .pure fun H w ρ _ hr d pos aft _ => ⟨.int k (max a b), by
    have e : (if b > a then b else a) = max a b := by omega
    simp [execOp, resolve, invoke, builtin, hr.v (by simp [Op.operands, Call.operands]) hx, hr.v (by simp [Op.operands, Call.operands]) hy, run_max_int2, ← e], .v _⟩
theorem Gr.min2 {x y : Operand} {a b : Int} {k : IntKind} {ts : Array TypeId} (hx : oget n F x = some (.v (.int k a))) (hy : oget n F y = some (.v (.int k b))) : Gr P c n (.call ⟨.builtin .min, #[x, y], ts⟩) ty F L (.v (.int k (min a b))) :=
  .pure fun H w ρ _ hr d pos aft _ => ⟨.int k (min a b), by
    have e : (if b < a then b else a) = min a b := by omega
    simp [execOp, resolve, invoke, builtin, hr.v (by simp [Op.operands, Call.operands]) hx, hr.v (by simp [Op.operands, Call.operands]) hy, run_min_int2, ← e], .v _⟩

/-! operand lists -/
def ogets (n : Cfg) (F : Fr) : List Operand → Option (List AV)
  | [] => some []
  | x :: xs => match oget n F x with
    | some v => match ogets n F xs with
      | some vs => some (v :: vs)
      | none => none
    | none => none
theorem Reads.list {xs : List Operand} {as : List AV} {A : Array Operand} (h : Reads H n F A ρ) (hm : ∀ x ∈ xs, x ∈ A) (hx : ogets n F xs = some as) : RelL H as (xs.map ρ) := by
  induction xs generalizing as with
  | nil => simp only [ogets, Option.some.injEq] at hx; subst hx; exact .nil
  | cons x xs ih =>
    simp only [ogets] at hx
    cases h1 : oget n F x with
    | none => rw [h1] at hx; cases hx
    | some a =>
      rw [h1] at hx
      cases h2 : ogets n F xs with
      | none => rw [h2] at hx; cases hx
      | some as' =>
        rw [h2] at hx
        simp only [Option.some.injEq] at hx
        subst hx
        exact .cons (h x (hm x (by simp)) _ h1) (ih (fun y hy => hm y (by simp [hy])) h2)
theorem Gr.makeFunc {fn : Go.Fn} {xs : List Operand} {as : List AV} (h : ogets n F xs = some as) : Gr P c n (.makeFunc fn #[] xs.toArray) ty F L (.fn fn as) :=
  .pure fun H w ρ _ hr d pos aft g => by
    have := hr.list (xs := xs) (fun x hx => by simp [Op.operands, hx]) h
    exact ⟨.func fn #[] (xs.map ρ).toArray, by simp [execOp, Instr.makeFunc], .fn this⟩

/-! addresses, loads -/
theorem run_field {s i off : Nat} {a : Addr} (hf : FldT P s i off) (w : World) : (Instr.fieldAt s (.pointer (some a)) i).run P w = .ok (.pointer (some (a.add off))) w := by
  obtain ⟨fs, f, h1, h2, h3, h4⟩ := hf.out
  have hsz : (sizeOf f.type).run P w = .ok ((P.info? f.type).map (·.size) |>.getD 0) w ∧ ((P.info? f.type).map (·.size) |>.getD 0) ≠ 0 := by
    cases hi : P.info? f.type with
    | none => rw [hi] at h4; cases h4
    | some q =>
      rw [hi] at h4
      simp at h4
      exact ⟨by rw [run_sizeOf' (k := q.size) (by rw [hi]; rfl)]; rfl, by simpa using h4⟩
  simp [Instr.fieldAt, run_und h1, h2, Instr.sureAddr, fieldPlace, hsz.1, hsz.2, h3]
theorem Gr.field {s i off : Nat} {x : Operand} {a : Addr} (hf : FldT P s i off) (hx : oget n F x = some (.v (.pointer (some a)))) : Gr P c n (.fieldAddr s x i) ty F L (.v (.pointer (some (a.add off)))) :=
  .pure fun H w ρ _ hr d pos aft g => ⟨_, by simp [execOp, hr.v (by simp [Op.operands]) hx, run_field hf] <;> rfl, .v _⟩
/-- into a block of the local heap, the address reckoned -/
theorem Gr.fieldB {s i off : Nat} {x : Operand} {g o : Nat} (hf : FldT P s i off) (hx : oget n F x = some (.v (.pointer (some ⟨g, o, none⟩)))) : Gr P c n (.fieldAddr s x i) ty F L (.v (.pointer (some ⟨g, o + off, none⟩))) :=
  (Gr.field hf hx).ofEq (by unfold Addr.add; split <;> simp_all)
theorem Gr.fieldF {s i off : Nat} {x : Operand} {cs : List AV} {o : Nat} (hf : FldT P s i off) (hx : oget n F x = some (.fp cs o)) : Gr P c n (.fieldAddr s x i) ty F L (.fp cs (o + off)) :=
  .pure fun H w ρ _ hr d pos aft g => by
    obtain ⟨b, q, e, h2⟩ := (hr x (by simp [Op.operands]) _ hx).inv_fp
    refine ⟨.pointer (some ⟨b, q + (o + off), none⟩), ?_, .fp h2⟩
    have : (⟨b, q + o, none⟩ : Addr).add off = ⟨b, q + (o + off), none⟩ := by unfold Addr.add; split <;> simp_all; omega
    simp [execOp, e, run_field hf, this]
theorem blk_at {w : World} {i g : Nat} {T : TypeId} {z : Bool} {cs : List AV} (hs : St c H w L) (hL : L[i]? = some (.blk g T z cs)) : ∃ us, w.heap[g]? = some (.cells us.toArray T (0, 0)) ∧ RelL H cs us := by
  obtain ⟨_, us, h1, h2, _⟩ := hs.holds _ (List.mem_of_getElem? hL)
  exact ⟨us, h1, h2⟩
theorem run_load1 {t : TypeId} {w : World} {A : Addr} {u : Value} (ht : OneT P t) (hc : w.cell? A = some u) : (Instr.loadAt t (.pointer (some A))).run P w = .ok u w := by
  simp [Instr.loadAt, Instr.sureAddr, loadVar, run_isAgg_f ht, hc]
theorem run_loadA {t : TypeId} {k : Nat} {w : World} {b o : Nat} {us : List Value} (ht : AggT P t k) (hk : us.length = k) (hc : ∀ j u, us[j]? = some u → w.cell? ⟨b, o + j, none⟩ = some u) : (Instr.loadAt t (.pointer (some ⟨b, o, none⟩))).run P w = .ok (.agg us.toArray) w := by
  have hl := run_loadCells_list (P := P) w ⟨b, o, none⟩ us (fun j u hu => by
    have : (⟨b, o, none⟩ : Addr).add j = ⟨b, o + j, none⟩ := by unfold Addr.add; split <;> simp_all
    rw [this]; exact hc j u hu)
  rw [hk] at hl
  simp [Instr.loadAt, Instr.sureAddr, loadVar, run_isAgg_t ht, run_sizeOf' ht.size, hl]
theorem Gr.ldB {t T : TypeId} {x : Operand} {g off : Nat} {z : Bool} {cs : List AV} {r : AV} (ht : OneT P t) (hx : oget n F x = some (.v (.pointer (some ⟨g, off, none⟩)))) (i : Nat) (hL : L[i]? = some (.blk g T z cs)) (hv : cs[off]? = some r) :
    Gr P c n (.load t x) ty F L r :=
  .pure fun H w ρ hs hr d pos aft _ => by
    obtain ⟨us, h1, h2⟩ := blk_at hs hL
    obtain ⟨u, h3, h4⟩ := h2.get hv
    exact ⟨u, by simp [execOp, hr.v (by simp [Op.operands]) hx, run_load1 ht (show w.cell? ⟨g, off, none⟩ = some u by simp [World.cell?, h1, h3])], h4⟩
theorem Gr.ldBA {t T : TypeId} {k : Nat} {x : Operand} {g off : Nat} {z : Bool} {cs vs : List AV} (ht : AggT P t k) (hx : oget n F x = some (.v (.pointer (some ⟨g, off, none⟩)))) (i : Nat) (hL : L[i]? = some (.blk g T z cs)) (hv : (cs.drop off).take k = vs) (hk : Nat.beq vs.length k = true) :
    Gr P c n (.load t x) ty F L (.agg vs) :=
  .pure fun H w ρ hs hr d pos aft _ => by
    obtain ⟨us, h1, h2⟩ := blk_at hs hL
    have h3 := (h2.drop off).take k
    rw [hv] at h3
    have hk' : ((us.drop off).take k).length = k := by rw [← h3.len]; exact Nat.eq_of_beq_eq_true hk
    refine ⟨.agg ((us.drop off).take k).toArray, ?_, .agg h3⟩
    simp [execOp, hr.v (by simp [Op.operands]) hx, run_loadA ht hk' (b := g) (o := off) (w := w) (fun j u hu => by
      rw [List.getElem?_take, List.getElem?_drop] at hu
      split at hu
      · simpa [World.cell?, h1] using hu
      · cases hu)]
theorem Gr.ldF {t : TypeId} {x : Operand} {off : Nat} {cs : List AV} {r : AV} (ht : OneT P t) (hx : oget n F x = some (.fp cs off)) (hv : cs[off]? = some r) :
    Gr P c n (.load t x) ty F L r :=
  .pure fun H w ρ hs hr d pos aft _ => by
    obtain ⟨b, q, e, h2⟩ := (hr x (by simp [Op.operands]) _ hx).inv_fp
    obtain ⟨u, h3, h4⟩ := h2.get hv
    exact ⟨u, by simp [execOp, e, run_load1 ht (hs.hin _ _ _ h3)], h4⟩
theorem RelC.dropTake : ∀ {b o : Nat} {cs : List AV}, RelC H b o cs → ∀ off k, RelC H b (o + off) ((cs.drop off).take k) := by
  intro b o cs h off k
  obtain ⟨us, h1, h2⟩ := h.list
  refine RelC.of ((h1.drop off).take k) (fun i u hu => ?_)
  rw [List.getElem?_take, List.getElem?_drop] at hu
  split at hu
  · rw [show o + off + i = o + (off + i) by omega]; exact h2 _ _ hu
  · cases hu
theorem Gr.ldFA {t : TypeId} {k : Nat} {x : Operand} {off : Nat} {cs vs : List AV} (ht : AggT P t k) (hx : oget n F x = some (.fp cs off)) (hv : (cs.drop off).take k = vs) (hk : Nat.beq vs.length k = true) :
    Gr P c n (.load t x) ty F L (.agg vs) :=
  .pure fun H w ρ hs hr d pos aft _ => by
    obtain ⟨b, q, e, h2⟩ := (hr x (by simp [Op.operands]) _ hx).inv_fp
    have h3 := h2.dropTake off k
    rw [hv] at h3
    obtain ⟨us, h4, h5⟩ := h3.list
    refine ⟨.agg us.toArray, ?_, .agg h4⟩
    simp [execOp, e, run_loadA ht (by rw [← h4.len]; exact Nat.eq_of_beq_eq_true hk) (b := b) (o := q + off) (w := w) (fun j u hu => hs.hin _ _ _ (h5 j u hu))]
/-! slices that are read -/
theorem Gr.len {t e : TypeId} {k : Nat} {x : Operand} {a : AV} {xs : List AV} (ht : SlcT P t e k) (hx : oget n F x = some a) (hs : Sb L a (.sl k xs)) : Gr P c n (.call ⟨.builtin .len, #[x], #[t]⟩) ty F L (I xs.length) :=
  .pure fun H w ρ hst hr d pos aft _ => by
    obtain ⟨A, cap, e, _⟩ := (hs.rel hst (hr x (by simp [Op.operands, Call.operands]) _ hx)).inv_sl
    exact ⟨.int .i64 xs.length, by simp [execOp, resolve, invoke, builtin, e, Builtin.len_, run_und ht.und, goInt], .v _⟩
theorem Gr.idx {q : IntKind} {i : Int} {t e : TypeId} {k : Nat} {x y : Operand} {a r : AV} {xs : List AV} (ht : SlcT P t e k) (hx : oget n F x = some a) (hs : Sb L a (.sl k xs)) (hy : oget n F y = some (.v (.int q i))) (h0 : 0 ≤ i) (hv : xs[i.toNat]? = some r) :
    Gr P c n (.indexAddr t x y) ty F L (.fp r.cells 0) :=
  .pure fun H w ρ hst hr d pos aft _ => by
    obtain ⟨A, cap, e, h1, h2, h3⟩ := (hs.rel hst (hr x (by simp [Op.operands]) _ hx)).inv_sl
    obtain ⟨b, off, e2, h4⟩ := h3 (by rintro rfl; simp at hv)
    have hlt := (List.getElem?_eq_some_iff.1 hv).1
    have hlt' : i < xs.length := by omega
    obtain ⟨_, h5⟩ := h4.get hv
    refine ⟨.pointer (some ⟨b, off + i.toNat * k + 0, none⟩), ?_, .fp h5⟩
    have : (⟨b, off, none⟩ : Addr).add (i.toNat * k) = ⟨b, off + i.toNat * k, none⟩ := by unfold Addr.add; split <;> simp_all
    simp only [execOp, e, e2, hr.v (x := y) (by simp [Op.operands]) hy, Instr.indexAt, asIntOf]
    simp [run_und ht.und, h0, hlt', run_sizeOf' ht.size, this]
theorem sl_len {H : Cells} {k : Nat} {xs : List AV} {v : Value} (h : Rel H (.sl k xs) v) : xs.length ≤ 9223372036854775807 := by
  obtain ⟨A, cap, _, h1, h2, _⟩ := h.inv_sl
  unfold maxLen at h2
  omega
/-- s[l:h] of a slice that is read -/
theorem Gr.slc {q q' : IntKind} {i j : Int} {t e : TypeId} {k : Nat} {x y z : Operand} {a : AV} {xs : List AV} (ht : SlcT P t e k) (hx : oget n F x = some a) (hs : Sb L a (.sl k xs)) (hy : oget n F y = some (.v (.int q i))) (hz : oget n F z = some (.v (.int q' j))) (h0 : 0 ≤ i) (h1 : i ≤ j) (h2 : j ≤ xs.length) :
    Gr P c n (.slice t x (some y) (some z) none) ty F L (.sl k ((xs.drop i.toNat).take (j.toNat - i.toNat))) :=
  .pure fun H w ρ hst hr d pos aft _ => by
    obtain ⟨A, cap, e, g1, g2, g3⟩ := (hs.rel hst (hr x (by simp [Op.operands]) _ hx)).inv_sl
    have hrun : (execOp ρ ⟨d, .slice t x (some y) (some z) none, ty, pos, aft, by assumption⟩).run P w = .ok (.value (.slice (if cap = i.toNat then A else A.map (·.add (i.toNat * k))) (j.toNat - i.toNat) (cap - i.toNat))) w := by
      have c1 : 0 ≤ j ∧ j ≤ (cap : Int) := by omega
      have c2 : 0 ≤ i ∧ i ≤ (j.toNat : Int) := by omega
      simp only [execOp, Option.map_some, Option.map_none, e, hr.v (x := y) (by simp [Op.operands]) hy, hr.v (x := z) (by simp [Op.operands]) hz, Instr.sliceAt, Instr.slice, Instr.sliceBounds, Instr.sliceBound, asIntOf]
      simp [run_und ht.und, run_sizeOf' ht.size, c1, c2]
      intro hlt
      omega
    refine ⟨_, hrun, ?_⟩
    have hlen : ((xs.drop i.toNat).take (j.toNat - i.toNat)).length = j.toNat - i.toNat := by simp; omega
    by_cases hn : (xs.drop i.toNat).take (j.toNat - i.toNat) = []
    · rw [hn] at hlen ⊢
      simp only [List.length_nil] at hlen
      rw [← hlen]
      exact .sl0 (by omega)
    · obtain ⟨b, off, e2, h4⟩ := g3 (by rintro rfl; simp at hn)
      have hci : cap ≠ i.toNat := by
        intro hc
        apply hn
        apply List.eq_nil_of_length_eq_zero
        rw [hlen]; omega
      have : (⟨b, off, none⟩ : Addr).add (i.toNat * k) = ⟨b, off + i.toNat * k, none⟩ := by unfold Addr.add; split <;> simp_all
      rw [if_neg hci, e2, Option.map_some, this]
      have := Rel.sl (cap := cap - i.toNat) ((h4.drop i.toNat).take (j.toNat - i.toNat)) (by rw [hlen]; omega) (by omega)
      rwa [hlen] at this
theorem Gr.slcL {q : IntKind} {i : Int} {t e : TypeId} {k : Nat} {x y : Operand} {a : AV} {xs : List AV} (ht : SlcT P t e k) (hx : oget n F x = some a) (hs : Sb L a (.sl k xs)) (hy : oget n F y = some (.v (.int q i))) (h0 : 0 ≤ i) (h1 : i ≤ xs.length) :
    Gr P c n (.slice t x (some y) none none) ty F L (.sl k (xs.drop i.toNat)) :=
  .pure fun H w ρ hst hr d pos aft _ => by
    obtain ⟨A, cap, e, g1, g2, g3⟩ := (hs.rel hst (hr x (by simp [Op.operands]) _ hx)).inv_sl
    have hrun : (execOp ρ ⟨d, .slice t x (some y) none none, ty, pos, aft, by assumption⟩).run P w = .ok (.value (.slice (if cap = i.toNat then A else A.map (·.add (i.toNat * k))) (xs.length - i.toNat) (cap - i.toNat))) w := by
      have c2 : 0 ≤ i ∧ i ≤ (xs.length : Int) := by omega
      simp only [execOp, Option.map_some, Option.map_none, e, hr.v (x := y) (by simp [Op.operands]) hy, Instr.sliceAt, Instr.slice, Instr.sliceBounds, Instr.sliceBound, asIntOf]
      simp [run_und ht.und, run_sizeOf' ht.size, c2]
    refine ⟨_, hrun, ?_⟩
    have hlen : (xs.drop i.toNat).length = xs.length - i.toNat := by simp
    by_cases hn : xs.drop i.toNat = []
    · rw [hn] at hlen ⊢
      simp only [List.length_nil] at hlen
      rw [← hlen]
      exact .sl0 (by omega)
    · obtain ⟨b, off, e2, h4⟩ := g3 (by rintro rfl; simp at hn)
      have hci : cap ≠ i.toNat := by
        intro hc
        apply hn
        apply List.eq_nil_of_length_eq_zero
        rw [hlen]; omega
      have : (⟨b, off, none⟩ : Addr).add (i.toNat * k) = ⟨b, off + i.toNat * k, none⟩ := by unfold Addr.add; split <;> simp_all
      rw [if_neg hci, e2, Option.map_some, this]
      have := Rel.sl (cap := cap - i.toNat) (h4.drop i.toNat) (by rw [hlen]; omega) (by omega)
      rwa [hlen] at this
theorem Gr.slcH {q' : IntKind} {j : Int} {t e : TypeId} {k : Nat} {x z : Operand} {a : AV} {xs : List AV} (ht : SlcT P t e k) (hx : oget n F x = some a) (hs : Sb L a (.sl k xs)) (hz : oget n F z = some (.v (.int q' j))) (h1 : 0 ≤ j) (h2 : j ≤ xs.length) :
    Gr P c n (.slice t x none (some z) none) ty F L (.sl k (xs.take j.toNat)) :=
  .pure fun H w ρ hst hr d pos aft _ => by
    obtain ⟨A, cap, e, g1, g2, g3⟩ := (hs.rel hst (hr x (by simp [Op.operands]) _ hx)).inv_sl
    have hrun : (execOp ρ ⟨d, .slice t x none (some z) none, ty, pos, aft, by assumption⟩).run P w = .ok (.value (.slice A j.toNat cap)) w := by
      have c1 : 0 ≤ j ∧ j ≤ (cap : Int) := by omega
      simp only [execOp, Option.map_some, Option.map_none, e, hr.v (x := z) (by simp [Op.operands]) hz, Instr.sliceAt, Instr.slice, Instr.sliceBounds, Instr.sliceBound, asIntOf]
      have : ∀ A : Option Addr, A.map (fun a : Addr => a.add 0) = A := fun A => by cases A <;> simp [Addr.add]
      simp [run_und ht.und, run_sizeOf' ht.size, c1, this]
    refine ⟨_, hrun, ?_⟩
    have hlen : (xs.take j.toNat).length = j.toNat := by simp; omega
    by_cases hn : xs.take j.toNat = []
    · rw [hn] at hlen ⊢
      simp only [List.length_nil] at hlen
      rw [← hlen]
      exact .sl0 (by omega)
    · obtain ⟨b, off, e2, h4⟩ := g3 (by rintro rfl; simp at hn)
      rw [e2]
      have := Rel.sl (cap := cap) (h4.take j.toNat) (by rw [hlen]; omega) (by omega)
      rwa [hlen] at this
end ops
end Go.E2
