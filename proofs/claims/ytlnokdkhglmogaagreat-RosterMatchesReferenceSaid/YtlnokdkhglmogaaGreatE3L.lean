/-
  The engine, part L: slices.Sort and slices.Compact of integers over a row of the caller's; a slice against nil.
  Conditions: none beyond the premises of each rule.
-/
import Derived.Test.YtlnokdkhglmogaaGreatE3I
import Derived.Test.YtlnokdkhglmogaaGreatE3W
import Derived.Shelf.Sort.Plain
import Derived.Shelf.Slices.CompactI
import Derived.Lib.RowBridge
import Derived.Shelf.Slices.In.SortNone
namespace Go.E2
open Go.RowKit Go.Sort Go.Proofs Go.Shelf
section
variable {P : Program} {c : Ctx} {L : List Ent} {H : Cells} {w : World} {ρ : Ren}
abbrev enI : Int → Value := Value.int .i64
/-- an element of one cell -/
abbrev avE {α : Type} (en : α → Value) (x : α) : AV := .v (en x)
theorem flat_E {α : Type} {en : α → Value} : ∀ zs : List α, (zs.map (avE en)).flatMap AV.cells = (zs.map en).map AV.v
  | [] => rfl
  | x :: l => by rw [List.map_cons, List.flatMap_cons, flat_E l]; rfl
section
variable {α : Type} [Inhabited α] {en : α → Value}
theorem take_putE (D : Array α) (cur : Array Value) (h : D.size ≤ cur.size) {k : Nat} (hk : k ≤ D.size) : (putCells en 0 D cur).toList.take k = (D.toList.take k).map en := by
  apply List.ext_getElem?
  intro t
  rw [List.getElem?_take, List.getElem?_map, List.getElem?_take, Array.getElem?_toList, Array.getElem?_toList]
  by_cases ht : t < k
  · rw [if_pos ht, if_pos ht]
    simp only [putCells, Array.getElem?_mapIdx]
    rw [Array.getElem?_eq_getElem (show t < cur.size by omega), Option.map_some, if_pos ⟨Nat.zero_le _, by omega⟩, Nat.sub_zero, getElem!_pos D t (by omega), Array.getElem?_eq_getElem (show t < D.size by omega)]; rfl
  · rw [if_neg ht, if_neg ht]; rfl
theorem els_put {i blk cap q : Nat} {t : TypeId} {zs ys zt : List α} {os : Array Obj} (hs : St c H w L) (hi : L[i]? = some (.row (.slice (some ⟨blk, 0, none⟩) zs.length cap) t 1 0 false (zs.map (avE en)))) (hl : (ys ++ zt).length = zs.length) :
    St c H (grow (putRow en (Sort.ahead w q) blk 0 (ys ++ zt).toArray) os) (L.set i (.row (.slice (some ⟨blk, 0, none⟩) ys.length cap) t 1 0 false (ys.map (avE en)))) := by
  obtain ⟨us, hrow, _, _, _, hno, _⟩ := hs.holds _ (List.mem_of_getElem? hi)
  obtain ⟨_, hr2⟩ := hrow
  rcases hr2 with ⟨hn, _⟩ | ⟨blk', cap', cur, hv, hb, hh, hc1, hc2, hc3, hc4⟩
  · cases hn
  rw [List.length_map] at hv hc1
  cases hv
  have hyl : ys.length ≤ zs.length := by rw [List.length_append] at hl; omega
  have hlt := blk_lt hh
  have hfree : ∀ o, H blk o = none := fun o => hno blk rfl o (by omega)
  have hoth : ∀ j, j < w.heap.size → j ≠ blk → (grow (putRow en (Sort.ahead w q) blk 0 (ys ++ zt).toArray) os).heap[j]? = w.heap[j]? := fun j hj hne => by
    rw [heap_grow_old _ _ (by simpa [putRow, mapBlock, ahead] using hj)]
    simp only [putRow, mapBlock, Array.getElem?_modify]
    rw [if_neg (fun e => hne e.symm)]; rfl
  have hown : (grow (putRow en (Sort.ahead w q) blk 0 (ys ++ zt).toArray) os).heap[blk]? = some (.cells (putCells en 0 (ys ++ zt).toArray cur) t (0, 0)) := by
    rw [heap_grow_old _ _ (by simpa [putRow, mapBlock, ahead] using hlt)]
    simp [putRow, mapBlock, Array.getElem?_modify, onCells]
    exact ⟨_, hh, rfl⟩
  have hsz : w.heap.size ≤ (grow (putRow en (Sort.ahead w q) blk 0 (ys ++ zt).toArray) os).heap.size := by
    simp [grow, putRow, mapBlock]
  refine hs.turn hi (hin_heap hs.hin fun b o u hu => hoth b (hs.hin.lt hu) fun e => by subst e; rw [hfree] at hu; cases hu) ?_ ?_ (.inl rfl) ?_
  · refine ⟨ys.map en, ⟨by simp, .inr ⟨blk, cap, putCells en 0 (ys ++ zt).toArray cur, by simp, hb, hown, by simp; omega, hc2, by simp [putCells, hc3], ?_⟩⟩, ?_, ?_, Nat.zero_le _, fun g hg o _ => ?_, fun h => by cases h⟩
    · rw [List.length_map, Nat.mul_one, take_putE _ _ (by simp only [List.size_toArray]; rw [hl, hc3]; omega) (by simp)]
      simp
    · rw [flat_E]; exact RelL.of_v _ _
    · intro x hx
      obtain ⟨y, _, rfl⟩ := List.mem_map.1 hx
      rfl
    · simp only [Value.ownBlock, Option.some.injEq] at hg
      subst hg; exact hfree o
  · exact ⟨rfl, rfl, rfl, hsz, fun j hj hne => hoth j hj (fun e => hne (by rw [e]; rfl))⟩
  · show w.drawn ≤ w.drawn + q
    omega
theorem els_holds {i : Nat} {v : Value} {t : TypeId} {zs : List α} (hs : St c H w L) (hi : L[i]? = some (.row v t 1 0 false (zs.map (avE en)))) (hne : zs ≠ []) :
    ∃ blk cap, v = .slice (some ⟨blk, 0, none⟩) zs.length cap ∧ blk < w.heap.size ∧ zs.length ≤ cap ∧ Holds en w blk 0 zs.toArray := by
  obtain ⟨us, hrow, hrel, _, _, _, _⟩ := hs.holds _ (List.mem_of_getElem? hi)
  rw [flat_E] at hrel
  have hus := hrel.inv_v
  obtain ⟨hul, hr2⟩ := hrow
  rcases hr2 with ⟨_, hn⟩ | ⟨blk, cap, cur, hv, hb, hh, hc1, hc2, hc3, hc4⟩
  · exact absurd (by simpa using hn) hne
  rw [List.length_map] at hv hc1 hc4
  refine ⟨blk, cap, hv, blk_lt hh, hc1, fun j hj => ?_⟩
  have hj' : j < zs.length := by simpa using hj
  refine ⟨?_, ?_⟩
  · simp only [World.cell?, Nat.zero_add, hh, Option.isSome_none]
    have q : cur.toList[j]? = some (en zs[j]) := by
      have : (cur.toList.take (zs.length * 1))[j]? = some (en zs[j]) := by rw [hc4, hus]; simp [hj']
      rwa [List.getElem?_take, if_pos (by omega)] at this
    rw [Array.getElem?_toList] at q
    simp only [Bool.false_eq_true, if_false]
    rw [q, getElem!_pos _ j hj]; rfl
  · simp [World.frozen?, hh]
end
/-- slices.Sort over a row of the caller's -/
theorem sortI_of (lay : Lays.n189 P ρ) {v : Value} {t : TypeId} {zs : List Int} (i : Nat) (hi : L[i]? = some (.row v t 1 0 false (zs.map I))) (hne : zs ≠ []) (hlen : zs.length < 4611686018427387904) :
    FnL P c (ρ.f 189) [.v v] L fun r L' => r = .tup [] ∧ L' = L.set i (.row v t 1 0 false ((zs.mergeSort fun x y => decide (x ≤ y)).map I)) := by
  refine ⟨fun H w vs hs hr => ?_⟩
  cases hr with
  | cons r1 r2 =>
  cases r2
  have e1 := r1.inv
  subst e1
  obtain ⟨blk, cap, rfl, hb, hc, hH⟩ := els_holds (en := enI) hs hi hne
  refine Calls.mono (Any.slices_Sort_int lay blk 0 cap zs w hH hb hlen) ?_
  rintro e w' ⟨rfl, q, os, rfl⟩
  have h := els_put (en := enI) (q := q) (os := os) (ys := zs.mergeSort fun x y => decide (x ≤ y)) (zt := []) hs hi (by simp)
  rw [List.append_nil, List.length_mergeSort] at h
  exact ⟨_, .tup [], H, _, rfl, ⟨rfl, rfl⟩, .tup .nil, Cells.le_refl _, h⟩
theorem grow_nil (w : World) : grow w #[] = w := by simp [grow]
/-- slices.Compact over a row of the caller's -/
theorem compactI_of (lay : Lays2.n20 P ρ) {v : Value} {t : TypeId} {zs : List Int} (i : Nat) (hi : L[i]? = some (.row v t 1 0 false (zs.map I))) (hne : zs ≠ []) (hlen : zs.length ≤ 9223372036854775807) :
    FnL P c (ρ.f 20) [.v v] L fun r L' => ∃ v', r = .v v' ∧ L' = L.set i (.row v' t 1 0 false ((Lib.compact zs).map I)) := by
  refine ⟨fun H w vs hs hr => ?_⟩
  cases hr with
  | cons r1 r2 =>
  cases r2
  have e1 := r1.inv
  subst e1
  obtain ⟨blk, cap, rfl, hb, hc, hH⟩ := els_holds (en := enI) hs hi hne
  refine Calls.mono (Any.slices_Compact_int lay blk 0 cap zs w hH hlen hc) ?_
  rintro e w' ⟨rfl, q, rfl⟩
  have hle := Lib.compact_length_le zs
  have h := els_put (en := enI) (q := q) (os := #[]) (ys := Lib.compact zs) (zt := List.replicate (zs.length - (Lib.compact zs).length) 0) hs hi (by simp; omega)
  rw [grow_nil] at h
  exact ⟨_, .v _, H, _, rfl, ⟨_, rfl, rfl⟩, .v _, Cells.le_refl _, h⟩
/-- slices.Sort over no elements -/
theorem sortI_none (lay : Lays.n189 P ρ) {v : Value} {t : TypeId} (i : Nat) (hi : L[i]? = some (.row v t 1 0 false [])) : FnL P c (ρ.f 189) [.v v] L fun r L' => r = .tup [] ∧ L' = L := by
  refine ⟨fun H w vs hs hr => ?_⟩
  obtain ⟨us, hrow, _⟩ := hs.holds _ (List.mem_of_getElem? hi)
  have hv : ∃ p cap, v = .slice p 0 cap := by
    rcases hrow.2 with ⟨h, _⟩ | ⟨blk, cap, cur, h, _⟩
    · exact ⟨_, _, h⟩
    · exact ⟨_, _, h⟩
  obtain ⟨p, cap, rfl⟩ := hv
  cases hr with
  | cons r1 r2 =>
  cases r2
  have e1 := r1.inv
  subst e1
  refine Calls.mono (Any.slices_Sort_int_none lay p cap w) ?_
  rintro e w' ⟨rfl, rfl⟩
  exact ⟨_, .tup [], H, _, rfl, ⟨rfl, rfl⟩, .tup .nil, Cells.le_refl _, hs⟩
def bytesOf (s : ByteArray) : List UInt8 := s.data.toList
def strOf (b : List UInt8) : ByteArray := ⟨b.toArray⟩
/-- slices.Sort of strings over a row of the caller's -/
theorem sortS_of (lay : Lays.n190 P ρ) {v : Value} {t : TypeId} {ss : List (List UInt8)} (i : Nat) (hi : L[i]? = some (.row v t 1 0 false (ss.map (avE encStr)))) (hne : ss ≠ []) (hlen : ss.length < 4611686018427387904) :
    FnL P c (ρ.f 190) [.v v] L fun r L' => r = .tup [] ∧ L' = L.set i (.row v t 1 0 false ((ss.mergeSort fun x y => decide (x ≤ y)).map (avE encStr))) := by
  refine ⟨fun H w vs hs hr => ?_⟩
  cases hr with
  | cons r1 r2 =>
  cases r2
  have e1 := r1.inv
  subst e1
  obtain ⟨blk, cap, rfl, hb, hc, hH⟩ := els_holds (en := encStr) hs hi hne
  refine Calls.mono (Any.slices_Sort_string lay blk 0 cap ss w hH hb hlen) ?_
  rintro e w' ⟨rfl, q, os, rfl⟩
  have h := els_put (en := encStr) (q := q) (os := os) (ys := ss.mergeSort fun x y => decide (x ≤ y)) (zt := []) hs hi (by simp)
  rw [List.append_nil, List.length_mergeSort] at h
  exact ⟨_, .tup [], H, _, rfl, ⟨rfl, rfl⟩, .tup .nil, Cells.le_refl _, h⟩
theorem sortS_none (lay : Lays.n190 P ρ) {v : Value} {t : TypeId} (i : Nat) (hi : L[i]? = some (.row v t 1 0 false [])) : FnL P c (ρ.f 190) [.v v] L fun r L' => r = .tup [] ∧ L' = L := by
  refine ⟨fun H w vs hs hr => ?_⟩
  obtain ⟨us, hrow, _⟩ := hs.holds _ (List.mem_of_getElem? hi)
  have hv : ∃ p cap, v = .slice p 0 cap := by
    rcases hrow.2 with ⟨h, _⟩ | ⟨blk, cap, cur, h, _⟩
    · exact ⟨_, _, h⟩
    · exact ⟨_, _, h⟩
  obtain ⟨p, cap, rfl⟩ := hv
  cases hr with
  | cons r1 r2 =>
  cases r2
  have e1 := r1.inv
  subst e1
  refine Calls.mono (Any.slices_Sort_string_none lay p cap w) ?_
  rintro e w' ⟨rfl, rfl⟩
  exact ⟨_, .tup [], H, _, rfl, ⟨rfl, rfl⟩, .tup .nil, Cells.le_refl _, hs⟩
theorem LK.callL {T : Tr} {n : Cfg} {ops : Array Oper} {F : Fr} {K : Fr → List Ent → Prop} [TabOK P T] {d : Option Tmp} {ty : TypeId} {pos : String} {aft : Array Edge} {rest : List Oper} {f : FuncId} {x : Operand} {xs : List Operand} {as1 as2 : List AV} {ts : Array TypeId} {Φ : AV → List Ent → Prop} (hf : EntersT P f) (hc : FnL P c f as2 L Φ) (hx : oget n F x = some (.v (.func (.func f) #[] #[]))) (hv : ogets n F xs = some as1) (hsb : SbL L as1 as2)
    (k : ∀ a L', Φ a L' → putK d a F fun F => wpl P T c n ops K rest F L') : LK P T c n ops K (⟨d, .call ⟨.value x, xs.toArray, ts⟩, ty, pos, aft, none⟩ :: rest) F L :=
  ⟨fun Q hQ => Lx.callL hf rfl hx hv hsb hc fun a L' hp => (wpl_out (putK_out (k a L' hp))).out Q hQ⟩
end
end Go.E2
