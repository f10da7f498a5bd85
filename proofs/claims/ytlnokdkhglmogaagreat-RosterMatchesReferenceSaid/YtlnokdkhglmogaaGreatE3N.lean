/-
  The engine, part N: elements of arrays.
  Conditions: none beyond the premises of each rule.
-/
import Derived.Test.YtlnokdkhglmogaaGreatE3H
namespace Go.E2
open Go.RowKit
section
variable {P : Program} {c : Ctx} {n : Cfg} {F : Fr} {L : List Ent} {ty : TypeId}
theorem Gr.idxAF {q : IntKind} {i : Int} {t e : TypeId} {len k : Nat} {x y : Operand} {cs : List AV} {o : Nat} (ht : ArrT P t len e k) (hx : oget n F x = some (.fp cs o)) (hy : oget n F y = some (.v (.int q i))) (h0 : 0 ≤ i) (h1 : i < len) : Gr P c n (.indexAddr t x y) ty F L (.fp cs (o + i.toNat * k)) :=
  .pure fun H w ρ hst hr d pos aft _ => by
    obtain ⟨b, q', e1, h2⟩ := (hr x (by simp [Op.operands]) _ hx).inv_fp
    refine ⟨.pointer (some ⟨b, q' + (o + i.toNat * k), none⟩), ?_, .fp h2⟩
    have : (⟨b, q' + o, none⟩ : Addr).add (i.toNat * k) = ⟨b, q' + (o + i.toNat * k), none⟩ := by unfold Addr.add; split <;> simp_all; omega
    simp only [execOp, e1, hr.v (x := y) (by simp [Op.operands]) hy, Instr.indexAt, asIntOf]
    simp [run_und ht.und, h0, h1, run_sizeOf' ht.size, this, Instr.sureAddr]
theorem Gr.idxAB {q : IntKind} {i : Int} {t e : TypeId} {len k g o : Nat} {x y : Operand} (ht : ArrT P t len e k) (hx : oget n F x = some (.v (.pointer (some ⟨g, o, none⟩)))) (hy : oget n F y = some (.v (.int q i))) (h0 : 0 ≤ i) (h1 : i < len) : Gr P c n (.indexAddr t x y) ty F L (.v (.pointer (some ⟨g, o + i.toNat * k, none⟩))) :=
  .pure fun H w ρ hst hr d pos aft _ => by
    have e1 := hr.v (x := x) (by simp [Op.operands]) hx
    refine ⟨.pointer (some ⟨g, o + i.toNat * k, none⟩), ?_, .v _⟩
    have : (⟨g, o, none⟩ : Addr).add (i.toNat * k) = ⟨g, o + i.toNat * k, none⟩ := by unfold Addr.add; split <;> simp_all
    simp only [execOp, e1, hr.v (x := y) (by simp [Op.operands]) hy, Instr.indexAt, asIntOf]
    simp [run_und ht.und, h0, h1, run_sizeOf' ht.size, this, Instr.sureAddr]
end
end Go.E2
