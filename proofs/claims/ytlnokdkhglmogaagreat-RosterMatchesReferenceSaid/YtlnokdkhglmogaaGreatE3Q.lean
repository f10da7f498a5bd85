/-
  The engine, part Q: short names for the walker's small proofs; loads from the local heap.
  Conditions: none beyond the premises of each rule.
-/
import Derived.Test.YtlnokdkhglmogaaGreatE3Y
import Derived.KernelRfl
namespace Go.E2
open Go.RowKit
theorem sh : (∀ (p : Prop) [Decidable p], (decide p = true) = p) ∧ (∀ (p : Prop) [Decidable p], (decide p = false) ↔ ¬ p) ∧ (∀ b : Bool, ((!b) = true) = (b = false)) ∧ (∀ b : Bool, ((!b) = false) = (b = true)) ∧
    (∀ (α : Type) (a b : α), (a ≠ b) = ¬ (a = b)) ∧ (∀ (p : Prop) [Decidable p], ¬¬ p ↔ p) ∧ (∀ a b : Int, (a > b) = (b < a)) ∧ (∀ a b : Int, (a ≥ b) = (b ≤ a)) ∧ (∀ a b : Nat, (a > b) = (b < a)) ∧ (∀ a b : Nat, (a ≥ b) = (b ≤ a)) ∧
    (∀ a b : Int, (¬ a < b) ↔ (b ≤ a)) ∧ (∀ a b : Int, (¬ a ≤ b) ↔ (b < a)) ∧ ((!true) = false) ∧ ((!false) = true) ∧ ((true = false) = False) ∧ ((false = true) = False) ∧
    (∀ (α : Type) [BEq α] [LawfulBEq α] (a b : α), (a == b) = true ↔ a = b) ∧ (∀ (α : Type) [BEq α] [LawfulBEq α] (a b : α), (a != b) = true ↔ a ≠ b) ∧ (∀ (α : Type) [BEq α] [LawfulBEq α] (a b : α), (a == b) = false ↔ a ≠ b) ∧
    (∀ (α : Type) [BEq α] [LawfulBEq α] (a b : α), (a != b) = false ↔ a = b) ∧ (∀ a b : Bool, ((a && b) = true) = (a = true ∧ b = true)) ∧ (∀ a b : Bool, ((a || b) = true) = (a = true ∨ b = true)) ∧
    (∀ a b : Bool, ((a && b) = false) ↔ (a = false ∨ b = false)) ∧ (∀ a b : Bool, ((a || b) = false) ↔ (a = false ∧ b = false)) ∧
    (∀ p : Prop, (p ∨ False) = p) ∧ (∀ p : Prop, (False ∨ p) = p) ∧ (∀ p : Prop, (p ∧ True) = p) ∧ (∀ p : Prop, (True ∧ p) = p) ∧ (¬ False ↔ True) ∧ (¬ True ↔ False) ∧
    (∀ (α β : Type) (f : α → β) (l : List α), (l.map f).length = l.length) ∧ (∀ n : Nat, ((n : Int)).toNat = n) ∧ (∀ n : Nat, ((n : Int) - 1).toNat = n - 1) ∧ (∀ n : Nat, ((n : Int) + 1).toNat = n + 1) := by
  refine ⟨fun p _ => decide_eq_true_eq, fun p _ => decide_eq_false_iff_not, fun b => by simp, fun b => by simp, fun _ _ _ => ne_eq _ _, fun p _ => Decidable.not_not, fun _ _ => rfl, fun _ _ => rfl, fun _ _ => rfl, fun _ _ => rfl,
    fun _ _ => Int.not_lt, fun _ _ => Int.not_le, rfl, rfl, by simp, by simp, fun _ _ _ _ _ => beq_iff_eq, fun _ _ _ _ _ => bne_iff_ne, fun _ _ _ _ _ => beq_eq_false_iff_ne, fun _ _ _ _ _ => bne_eq_false_iff_eq,
    fun _ _ => Bool.and_eq_true _ _, fun _ _ => Bool.or_eq_true _ _, fun _ _ => Bool.and_eq_false_iff, fun _ _ => Bool.or_eq_false_iff, fun _ => or_false _, fun _ => false_or _, fun _ => and_true _, fun _ => true_and _, not_false_iff, by simp, fun _ _ _ _ => List.length_map _, fun _ => Int.toNat_natCast _, fun _ => by omega, fun _ => by omega⟩
theorem Qm {p : Prop} (h : p := by omega) : p := h
theorem Qw {p : Prop} (h : p := by first | (intro h; simp only [sh] at h; omega) | (intro _; omega) | (intro h; simp only [sh] at h <;> fail)) : p := h
theorem Qb {p : Prop} (h : p := by first | exact Sb.refl _ | exact Sb.row 0 rfl | exact Sb.row 1 rfl | exact Sb.row 2 rfl | exact Sb.row 3 rfl | exact Sb.nil | exact Sb.fn0) : p := h
theorem Ql {p : Prop} (h : p := by (repeat (first | exact SbL.nil | exact Sb.refl _ | exact Sb.nil | exact Sb.row 0 rfl | exact Sb.row 1 rfl | exact Sb.row 2 rfl | exact Sb.row 3 rfl | exact Sb.ptr 0 rfl | exact Sb.ptr 1 rfl | exact Sb.ptr 2 rfl | exact Sb.ptr 3 rfl | exact Sb.ptr 4 rfl | exact Sb.fn0 | refine SbL.cons ?_ ?_ | refine Sb.agg ?_ | refine Sb.fn ?_)) <;> fail) : p := h
theorem Qz {p : Prop} (h : p := by (repeat (first | exact SbL.nil | exact Sb.refl _ | exact Sb.nil | exact Sb.row 0 rfl | exact Sb.row 1 rfl | exact Sb.row 2 rfl | exact Sb.row 3 rfl | exact Sb.ptr 0 rfl | exact Sb.ptr 1 rfl | exact Sb.ptr 2 rfl | exact Sb.ptr 3 rfl | exact Sb.fn0 | refine SbL.cons ?_ ?_ | refine Sb.tup ?_ | refine Sb.agg ?_ | refine Sb.fn ?_)) <;> fail) : p := h
theorem Qo {p : Prop} (h : p := by first | omega | (simp only [List.length_cons, List.length_nil]; omega) | (simp only [List.length_cons, List.length_nil, List.length_map, List.length_append]; omega)) : p := h
theorem Qi {p : Prop} (h : p := by first | assumption | exact List.getElem?_eq_getElem (by omega) | rfl | simp [*]) : p := h
theorem Qs {p : Prop} (h : p := by (repeat (first | exact List.Sublist.refl _ | exact List.nil_sublist _ | refine List.Sublist.cons_cons _ ?_ | refine List.Sublist.cons _ ?_)) <;> fail) : p := h
theorem Qk {p : Prop} (h : p := by decide +kernel) : p := h
theorem Qy {p : Prop} (h : p := by (repeat (first | exact Says.nil | refine Says.cons ?_ ?_ | rfl)) <;> fail) : p := h
theorem Qr {p : Prop} (h : p := by kernel_rfl) : p := h
theorem one_iff {xs : List AV} : (xs.flatMap AV.cells).all AV.one = true ↔ ∀ x ∈ xs, x.cells.all AV.one = true := by
  rw [List.all_flatMap, List.all_eq_true]
theorem one_map {α : Type} {f : α → AV} (l : List α) (h : ∀ x, (f x).cells.all AV.one = true) : ((l.map f).flatMap AV.cells).all AV.one = true :=
  one_iff.2 fun x hx => by obtain ⟨y, _, rfl⟩ := List.mem_map.1 hx; exact h y
theorem one_take {xs : List AV} (n : Nat) (h : (xs.flatMap AV.cells).all AV.one = true) : ((xs.take n).flatMap AV.cells).all AV.one = true := one_iff.2 fun x hx => one_iff.1 h x (List.mem_of_mem_take hx)
theorem one_drop {xs : List AV} (n : Nat) (h : (xs.flatMap AV.cells).all AV.one = true) : ((xs.drop n).flatMap AV.cells).all AV.one = true := one_iff.2 fun x hx => one_iff.1 h x (List.mem_of_mem_drop hx)
theorem Q1 {p : Prop} (h : p := by first | rfl | exact one_map _ (fun _ => rfl) | exact one_take _ (one_map _ (fun _ => rfl)) | exact one_drop _ (one_map _ (fun _ => rfl)) | exact one_take _ (one_drop _ (one_map _ (fun _ => rfl))) | exact List.all_eq_true.2 (by simp [AV.one, AV.cells])) : p := h
def oneK : TD → Bool
  | .no => false
  | .st _ _ _ => false
  | .arr _ _ _ _ => false
  | _ => true
def aggK : TD → Nat
  | .st k _ _ => k
  | .arr l _ k _ => Nat.mul l k
  | _ => 0
section
variable {P : Program} {T : Tr} {c : Ctx} {n : Cfg} {w : Bool} {ty : TypeId} {F : Fr} {L : List Ent} {k : AV → Prop} [hT : TabOK P T]
theorem one_of {t : TypeId} {td : TD} (hd : T.get t = some td) (h1 : oneK td = true) : OneT P t :=
  load_one hd (by rintro rfl; cases h1) (by rintro _ _ _ rfl; cases h1) (by rintro _ _ _ _ rfl; cases h1)
theorem Ask.ldB {t U : TypeId} {x : Operand} {g off : Nat} {z : Bool} {cs : List AV} {td : TD} (i : Nat) (hd : T.get t = some td) (h1 : oneK td = true) (hL : L[i]? = some (.blk g U z cs)) (hx : oget n F x = some (.v (.pointer (some ⟨g, off, none⟩)))) (hk : nth cs off k) :
    Ask P c n w (.load t x) ty F L k :=
  let ⟨r, e, h⟩ := nth_out hk; ⟨r, fun _ => Gr.ldB (one_of hd h1) hx i hL e, h⟩
theorem Ask.ldBA {t U : TypeId} {x : Operand} {g off : Nat} {z : Bool} {cs : List AV} {td : TD} (i : Nat) (hd : T.get t = some td) (h1 : Nat.beq (aggK td) 0 = false) (hL : L[i]? = some (.blk g U z cs)) (hx : oget n F x = some (.v (.pointer (some ⟨g, off, none⟩)))) (hk : dropK cs off fun ds => takeK ds (aggK td) fun vs => k (.agg vs)) :
    Ask P c n w (.load t x) ty F L k := by
  obtain ⟨vs, h1', h2, h⟩ := takeK_out (dropK_out hk)
  have ha : AggT P t (aggK td) := by
    cases td with
    | st k fs zs => exact (tab_st hT hd).1
    | arr l e k zs => exact (tab_arr hT hd).2.1
    | _ => simp [aggK] at h1
  exact ⟨_, fun _ => Gr.ldBA ha hx i hL h1' (by rw [h2]; simp), h⟩
theorem Ask.lenR {t e U : TypeId} {kk b q : Nat} {z : Bool} {x : Operand} {v : Value} {xs : List AV} (i : Nat) (hd : T.get t = some (.sl e kk b)) (hL : L[i]? = some (.row v U kk q z xs)) (hx : oget n F x = some (.v v)) (hk : k (I xs.length)) : Ask P c n w (.call ⟨.builtin .len, #[x], #[t]⟩) ty F L k :=
  ⟨_, fun _ => Gr.lenR (tab_sl hT hd).1 i hx hL, hk⟩
theorem Ask.idxR {q : IntKind} {a : Int} {t e U : TypeId} {kk b m : Nat} {z : Bool} {x y : Operand} {v : Value} {xs : List AV} (i : Nat) (hd : T.get t = some (.sl e kk b)) (hL : L[i]? = some (.row v U kk m z xs)) (hx : oget n F x = some (.v v)) (hy : oget n F y = some (.v (.int q a))) (h0 : w = true → 0 ≤ a ∧ a < xs.length) (hk : k (.v (.pointer (some ⟨blkOf v, a.toNat * kk, none⟩)))) :
    Ask P c n w (.indexAddr t x y) ty F L k := ⟨_, fun e => Gr.idxR (tab_sl hT hd).1 i hx hL hy (h0 e).1 (h0 e).2, hk⟩
theorem Ask.ldR {t U : TypeId} {x : Operand} {v : Value} {a j kk m : Nat} {z : Bool} {xs : List AV} {p r : AV} {td : TD} (i : Nat) (hd : T.get t = some td) (h1 : oneK td = true) (hL : L[i]? = some (.row v U kk m z xs)) (hx : oget n F x = some (.v (.pointer (some ⟨blkOf v, a * kk + j, none⟩)))) (hp : xs[a]? = some p) (hr : p.cells[j]? = some r) (hk : k r) :
    Ask P c n w (.load t x) ty F L k := ⟨_, fun _ => Gr.ldR (one_of hd h1) i hx hL hp hr, hk⟩
theorem Ask.ldR0 {t U : TypeId} {x : Operand} {v : Value} {a kk m : Nat} {z : Bool} {xs : List AV} {p r : AV} {td : TD} (i : Nat) (hd : T.get t = some td) (h1 : oneK td = true) (hL : L[i]? = some (.row v U kk m z xs)) (hx : oget n F x = some (.v (.pointer (some ⟨blkOf v, a * kk, none⟩)))) (hp : xs[a]? = some p) (hr : p.cells[0]? = some r) (hk : k r) :
    Ask P c n w (.load t x) ty F L k := ⟨_, fun _ => Gr.ldR0 (one_of hd h1) i hx hL hp hr, hk⟩
theorem Ask.ldRA {t U : TypeId} {x : Operand} {v : Value} {a m : Nat} {z : Bool} {xs cs : List AV} {td : TD} (i : Nat) (hd : T.get t = some td) (h1 : Nat.beq (aggK td) 0 = false) (hL : L[i]? = some (.row v U (aggK td) m z xs)) (hx : oget n F x = some (.v (.pointer (some ⟨blkOf v, a * aggK td, none⟩)))) (hp : xs[a]? = some (.agg cs)) (hk : k (.agg cs)) :
    Ask P c n w (.load t x) ty F L k := by
  have ha : AggT P t (aggK td) := by
    cases td with
    | st k fs zs => exact (tab_st hT hd).1
    | arr l e k zs => exact (tab_arr hT hd).2.1
    | _ => simp [aggK] at h1
  exact ⟨_, fun _ => Gr.ldRA ha i hx hL hp, hk⟩
theorem Ask.idxT {t : TypeId} {x y : Operand} {p : ByteArray} {q : IntKind} {a : Int} (hd : T.get t = some .str) (hx : oget n F x = some (.v (.string p))) (hy : oget n F y = some (.v (.int q a))) (h0 : w = true → 0 ≤ a ∧ a < p.size) (hk : k (.v (.int .u8 (p.data.toList.getD a.toNat 0).toNat))) :
    Ask P c n w (.index t x y) ty F L k := by
  refine ⟨_, fun e => ?_, hk⟩
  have hlt : a.toNat < p.size := by have := h0 e; omega
  have e2 : p[a.toNat]? = some (p.data.toList.getD a.toNat 0) := by
    rw [getElem?_pos p a.toNat hlt]
    have : a.toNat < p.data.toList.length := by simpa using hlt
    simp only [List.getD, List.getElem?_eq_getElem this, Option.getD_some]
    rfl
  exact Gr.idxT (tab_str hT hd).1 hx hy (h0 e).1 e2
end
end Go.E2
