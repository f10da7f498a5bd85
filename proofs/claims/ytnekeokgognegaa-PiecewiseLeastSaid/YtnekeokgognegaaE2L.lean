/-
  The engine, part L: slices.Sort and slices.Compact of integers over a row of the caller's; a slice against nil.
  Conditions: none beyond the premises of each rule.
-/
import Derived.Test.YtnekeokgognegaaE2I
import Derived.Shelf.Sort.Plain
import Derived.Shelf.Slices.CompactI
import Derived.Lib.RowBridge
import Derived.Lib.SliceRun
namespace Go.E2
open Go.RowKit Go.Sort Go.Proofs Go.Shelf
section
variable {P : Program} {c : Ctx} {n : Cfg} {F : Fr} {L : List Ent} {H : Cells} {w : World} {ρ : Ren} {ty : TypeId}
abbrev enI : Int → Value := Value.int .i64
theorem take_putI (D : Array Int) (cur : Array Value) (h : D.size ≤ cur.size) {k : Nat} (hk : k ≤ D.size) : (putCells enI 0 D cur).toList.take k = (D.toList.take k).map enI := by
  apply List.ext_getElem?
  intro t
  rw [List.getElem?_take, List.getElem?_map, List.getElem?_take, Array.getElem?_toList, Array.getElem?_toList]
  by_cases ht : t < k
  · rw [if_pos ht, if_pos ht]
    simp only [putCells, Array.getElem?_mapIdx]
    rw [Array.getElem?_eq_getElem (show t < cur.size by omega), Option.map_some, if_pos ⟨Nat.zero_le _, by omega⟩, Nat.sub_zero, getElem!_pos D t (by omega), Array.getElem?_eq_getElem (show t < D.size by omega)]; rfl
  · rw [if_neg ht, if_neg ht]; rfl
theorem flat_I : ∀ zs : List Int, (zs.map I).flatMap AV.cells = (zs.map enI).map AV.v
  | [] => rfl
  | x :: l => by rw [List.map_cons, List.flatMap_cons, flat_I l]; rfl
theorem ints_put {i blk cap q : Nat} {t : TypeId} {zs ys zt : List Int} {os : Array Obj} (hs : St c H w L) (hi : L[i]? = some (.row (.slice (some ⟨blk, 0, none⟩) zs.length cap) t 1 0 false (zs.map I))) (hl : (ys ++ zt).length = zs.length) :
    St c H (grow (putRow enI (Sort.ahead w q) blk 0 (ys ++ zt).toArray) os) (L.set i (.row (.slice (some ⟨blk, 0, none⟩) ys.length cap) t 1 0 false (ys.map I))) := by
  obtain ⟨us, hrow, _, _, _, hno, _⟩ := hs.holds _ (List.mem_of_getElem? hi)
  obtain ⟨_, hr2⟩ := hrow
  rcases hr2 with ⟨hn, _⟩ | ⟨blk', cap', cur, hv, hb, hh, hc1, hc2, hc3, hc4⟩
  · cases hn
  rw [List.length_map] at hv hc1
  cases hv
  have hyl : ys.length ≤ zs.length := by rw [List.length_append] at hl; omega
  have hlt := blk_lt hh
  have hfree : ∀ o, H blk o = none := fun o => hno blk rfl o (by omega)
  have hoth : ∀ j, j < w.heap.size → j ≠ blk → (grow (putRow enI (Sort.ahead w q) blk 0 (ys ++ zt).toArray) os).heap[j]? = w.heap[j]? := fun j hj hne => by
    rw [heap_grow_old _ _ (by simpa [putRow, mapBlock, ahead] using hj)]
    simp only [putRow, mapBlock, Array.getElem?_modify]
    rw [if_neg (fun e => hne e.symm)]; rfl
  have hown : (grow (putRow enI (Sort.ahead w q) blk 0 (ys ++ zt).toArray) os).heap[blk]? = some (.cells (putCells enI 0 (ys ++ zt).toArray cur) t (0, 0)) := by
    rw [heap_grow_old _ _ (by simpa [putRow, mapBlock, ahead] using hlt)]
    simp [putRow, mapBlock, Array.getElem?_modify, onCells]
    exact ⟨_, hh, rfl⟩
  have hsz : w.heap.size ≤ (grow (putRow enI (Sort.ahead w q) blk 0 (ys ++ zt).toArray) os).heap.size := by
    simp [grow, putRow, mapBlock]
  refine hs.turn hi (hin_heap hs.hin fun b o u hu => hoth b (hs.hin.lt hu) fun e => by subst e; rw [hfree] at hu; cases hu) ?_ ?_ (.inl rfl) ?_
  · refine ⟨ys.map enI, ⟨by simp, .inr ⟨blk, cap, putCells enI 0 (ys ++ zt).toArray cur, by simp, hb, hown, by simp; omega, hc2, by simp [putCells, hc3], ?_⟩⟩, ?_, ?_, Nat.zero_le _, fun g hg o _ => ?_, fun h => by cases h⟩
    · rw [List.length_map, Nat.mul_one, take_putI _ _ (by simp only [List.size_toArray]; rw [hl, hc3]; omega) (by simp)]
      simp
    · rw [flat_I]; exact RelL.of_v _ _
    · intro x hx
      obtain ⟨y, _, rfl⟩ := List.mem_map.1 hx
      rfl
    · simp only [Value.ownBlock, Option.some.injEq] at hg
      subst hg; exact hfree o
  · exact ⟨rfl, rfl, rfl, hsz, fun j hj hne => hoth j hj (fun e => hne (by rw [e]; rfl))⟩
  · show w.drawn ≤ w.drawn + q
    omega
theorem ints_holds {i : Nat} {v : Value} {t : TypeId} {zs : List Int} (hs : St c H w L) (hi : L[i]? = some (.row v t 1 0 false (zs.map I))) (hne : zs ≠ []) :
    ∃ blk cap, v = .slice (some ⟨blk, 0, none⟩) zs.length cap ∧ blk < w.heap.size ∧ zs.length ≤ cap ∧ Holds enI w blk 0 zs.toArray := by
  obtain ⟨us, hrow, hrel, _, _, _, _⟩ := hs.holds _ (List.mem_of_getElem? hi)
  rw [flat_I] at hrel
  have hus := hrel.inv_v
  obtain ⟨hul, hr2⟩ := hrow
  rcases hr2 with ⟨_, hn⟩ | ⟨blk, cap, cur, hv, hb, hh, hc1, hc2, hc3, hc4⟩
  · exact absurd (by simpa using hn) hne
  rw [List.length_map] at hv hc1 hc4
  refine ⟨blk, cap, hv, blk_lt hh, hc1, fun j hj => ?_⟩
  have hj' : j < zs.length := by simpa using hj
  refine ⟨?_, ?_⟩
  · simp only [World.cell?, Nat.zero_add, hh, Option.isSome_none]
    have q : cur.toList[j]? = some (enI zs[j]) := by
      have : (cur.toList.take (zs.length * 1))[j]? = some (enI zs[j]) := by rw [hc4, hus]; simp [hj']
      rwa [List.getElem?_take, if_pos (by omega)] at this
    rw [Array.getElem?_toList] at q
    simp only [Bool.false_eq_true, if_false]
    rw [q, getElem!_pos _ j hj]; rfl
  · simp [World.frozen?, hh]
/-- slices.Sort over a row of the caller's -/
theorem sortI_of (lay : Lays.n189 P ρ) {v : Value} {t : TypeId} {zs : List Int} (i : Nat) (hi : L[i]? = some (.row v t 1 0 false (zs.map I))) (hne : zs ≠ []) (hlen : zs.length < 4611686018427387904) :
    FnL P c (ρ.f 189) [.v v] L fun r L' => r = .tup [] ∧ L' = L.set i (.row v t 1 0 false ((zs.mergeSort fun x y => decide (x ≤ y)).map I)) := by
  refine ⟨fun H w vs hs hr => ?_⟩
  cases hr with
  | cons r1 r2 =>
  cases r2
  have e1 := r1.inv
  subst e1
  obtain ⟨blk, cap, rfl, hb, hc, hH⟩ := ints_holds hs hi hne
  refine Calls.mono (Any.slices_Sort_int lay blk 0 cap zs w hH hb hlen) ?_
  rintro e w' ⟨rfl, q, os, rfl⟩
  have h := ints_put (q := q) (os := os) (ys := zs.mergeSort fun x y => decide (x ≤ y)) (zt := []) hs hi (by simp)
  rw [List.append_nil, List.length_mergeSort] at h
  exact ⟨_, .tup [], H, _, rfl, ⟨rfl, rfl⟩, .tup .nil, Cells.le_refl _, h⟩
theorem grow_nil (w : World) : grow w #[] = w := by simp [grow]
/-- slices.Compact over a row of the caller's -/
theorem compactI_of (lay : Lays2.n20 P ρ) {v : Value} {t : TypeId} {zs : List Int} (i : Nat) (hi : L[i]? = some (.row v t 1 0 false (zs.map I))) (hne : zs ≠ []) (hlen : zs.length ≤ 9223372036854775807) :
    FnL P c (ρ.f 20) [.v v] L fun r L' => ∃ v', r = .v v' ∧ L' = L.set i (.row v' t 1 0 false ((Lib.compact zs).map I)) := by
  refine ⟨fun H w vs hs hr => ?_⟩
  cases hr with
  | cons r1 r2 =>
  cases r2
  have e1 := r1.inv
  subst e1
  obtain ⟨blk, cap, rfl, hb, hc, hH⟩ := ints_holds hs hi hne
  refine Calls.mono (Any.slices_Compact_int lay blk 0 cap zs w hH hlen hc) ?_
  rintro e w' ⟨rfl, q, rfl⟩
  have hle := Lib.compact_length_le zs
  have h := ints_put (q := q) (os := #[]) (ys := Lib.compact zs) (zt := List.replicate (zs.length - (Lib.compact zs).length) 0) hs hi (by simp; omega)
  rw [grow_nil] at h
  exact ⟨_, .v _, H, _, rfl, ⟨_, rfl, rfl⟩, .v _, Cells.le_refl _, h⟩
/-- a slice that has elements is not nil -/
theorem Gr.eqNil {t t' e : TypeId} {k : Nat} {x : Operand} {a : AV} {xs : List AV} (ht : SlcT P t e k) (hx : oget n F x = some a) (hs : Sb L a (.sl k xs)) (hne : xs ≠ []) : Gr P c n (.binOp .eql t x (.const (.slice none 0 0)) t') ty F L (B false) :=
  .pure fun H w ρ hst hr d pos aft _ => by
    obtain ⟨A, cap, e1, _, _, g⟩ := (hs.rel hst (hr x (by simp [Op.operands]) _ hx)).inv_sl
    obtain ⟨b, off, rfl, _⟩ := g hne
    have e2 : ρ (.const (.slice none 0 0)) = .slice none 0 0 := (hr (.const (.slice none 0 0)) (by simp [Op.operands]) (.v (.slice none 0 0)) rfl).inv
    refine ⟨.bool false, ?_, .v _⟩
    simp [execOp, e1, e2, eqGuard, Lib.run_eql_slice_nil w t e _ _ _ _ _ ht.und]
end
end Go.E2
