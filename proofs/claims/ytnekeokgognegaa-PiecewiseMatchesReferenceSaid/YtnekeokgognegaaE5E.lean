/-
  The engine, texts I, L, RJ, RQ.
  Conditions: none beyond the premises of each rule.
-/
import Derived.Test.YtnekeokgognegaaE5B
import Derived.Shelf.SlSortCmp.NoneTotal
import Derived.Test.YtnekeokgognegaaE5D
import Derived.Shelf.Sort.Plain
import Derived.Shelf.Slices.CompactI
import Derived.Lib.RowBridge
import Derived.Shelf.Slices.In.SortNone
import Derived.Laws.MakeOwn
namespace Go.E2
open Go.RowKit Go.Sort Go.Proofs Go.Shelf
section
variable {P : Program} {c : Ctx} {n : Cfg} {Q : Exit → Act → World → Prop} {F : Fr} {L : List Ent} {ops : Array Oper} {ty : TypeId}
variable {d : Option Tmp} {pos : String} {aft : Array Edge} {gd : Option (Nat × Bool)} {rest : List Oper} {H : Cells} {w : World}
theorem Lx.callL {f : FuncId} {x : Operand} {xs : List Operand} {as1 as2 : List AV} {ts : Array TypeId} {Φ : AV → List Ent → Prop} (hf : EntersT P f) (hg : wantB ops n F gd = some true) (hx : oget n F x = some (.v (.func (.func f) #[] #[]))) (hv : ogets n F xs = some as1) (hsb : SbL L as1 as2) (hc : FnL P c f as2 L Φ)
    (k : ∀ a L', Φ a L' → Lx P c n ops Q rest (putF d a F) L') : Lx P c n ops Q (⟨d, .call ⟨.value x, xs.toArray, ts⟩, ty, pos, aft, gd⟩ :: rest) F L :=
  ⟨fun H w a hs hF => by
    refine wpList_step fun K hK => ?_
    rw [if_pos (wanted_fit (o := ⟨d, _, ty, pos, aft, gd⟩) hF.size hF.rel hg)]
    unfold Oper.wp
    have hr := hF.reads (Op.call ⟨.value x, xs.toArray, ts⟩).operands
    rw [run_call hf (hr.v (by simp [Op.operands, Call.operands]) hx)]
    simp only [Oper.upon]
    have h := hc.out H w (xs.map a.eval) hs (hsb.rel hs (hr.list (fun y hy => by simp [Op.operands, Call.operands, hy]) hv))
    rw [show (#[] ++ (xs.map a.eval).toArray ++ #[] : Array Value) = (xs.map a.eval).toArray by simp]
    refine Calls.mono h ?_
    rintro e w' ⟨v, b, H', L', rfl, hp, hrel, hle, hst⟩
    exact hK _ _ ((k b L' hp).out H' w' _ hst ((hF.mono hle).put hrel d))⟩
/-- what a row's slice is -/
theorem row_one {base : Nat} {v : Value} {t : TypeId} {size m : Nat} {z : Bool} {xs : List AV} (h : (Ent.row v t size m z xs).In H base w) : (AV.v v).one = true := by
  obtain ⟨us, ⟨_, h⟩, _⟩ := h
  rcases h with ⟨rfl, _⟩ | ⟨_, _, _, rfl, _⟩ <;> rfl
theorem Lx.rows {l : List Oper} (k : (∀ (j : Nat) (v : Value) (t : TypeId) (s m : Nat) (z : Bool) (xs : List AV), L[j]? = some (Ent.row v t s m z xs) → (AV.v v).one = true) → Lx P c n ops Q l F L) : Lx P c n ops Q l F L :=
  ⟨fun H w a hs hF => (k fun _ _ _ _ _ _ _ hj => row_one (hs.holds _ (List.mem_of_getElem? hj))).out H w a hs hF⟩
theorem FnL.mono {f : FuncId} {args : List AV} {Φ Ψ : AV → List Ent → Prop} (h : FnL P c f args L Φ) (hm : ∀ a E, Φ a E → Ψ a E) : FnL P c f args L Ψ :=
  ⟨fun H w vs hi hr => Calls.mono (h.out H w vs hi hr) fun _ _ ⟨v, a, H', E, he, hp, hs⟩ => ⟨v, a, H', E, he, hm _ _ hp, hs⟩⟩
end
/-! worlds that have grown -/
theorem grow_of_below {W w : World} (h : Go.RowKit.Below W.heap.size W w) (hd : W.drawn ≤ w.drawn) : ∃ q os, w = grow (W.drewN q) os := by
  refine ⟨w.drawn - W.drawn, w.heap.extract W.heap.size w.heap.size, ?_⟩
  have hh : w.heap = W.heap ++ w.heap.extract W.heap.size w.heap.size := by
    apply Array.ext_getElem?
    intro i
    rw [Array.getElem?_append]
    by_cases hi : i < W.heap.size
    · rw [if_pos hi, h.block i hi]
    · rw [if_neg hi, Array.getElem?_extract]
      have := h.size
      by_cases h2 : i < w.heap.size
      · rw [if_pos (by omega)]
        congr 1; omega
      · rw [if_neg (by omega), Array.getElem?_eq_none (by omega)]
  obtain ⟨h1, h2, h3, _, _⟩ := h
  cases w; cases W
  simp only [grow, World.drewN] at *
  simp only [World.mk.injEq]
  exact ⟨hh, h2, by omega, h1, h3⟩
section
variable {α : Type} {enc : α → List Value} {k : Nat}
theorem flatMap_get (hk : ∀ x, (enc x).length = k) (k0 : 0 < k) : ∀ (l : List α) (t : Nat), (l.flatMap enc)[t]? = (l[t / k]?).bind fun x => (enc x)[t % k]?
  | [], t => by simp
  | x :: l, t => by
    rw [List.flatMap_cons, List.getElem?_append, hk]
    by_cases h : t < k
    · rw [if_pos h, Nat.div_eq_of_lt h, Nat.mod_eq_of_lt h]; rfl
    · rw [if_neg h, flatMap_get hk k0 l (t - k)]
      have e1 : t / k = (t - k) / k + 1 := by rw [Nat.div_eq t k, if_pos ⟨k0, by omega⟩]
      have e2 : t % k = (t - k) % k := Nat.mod_eq_sub_mod (by omega)
      rw [e1, e2]; rfl
theorem flat_av {av : α → AV} (hav : ∀ x, av x = .agg ((enc x).map AV.v)) : ∀ l : List α, (l.map av).flatMap AV.cells = (l.flatMap enc).map AV.v
  | [] => rfl
  | x :: l => by
    rw [List.map_cons, List.flatMap_cons, List.flatMap_cons, List.map_append, flat_av hav l, hav]; rfl
variable [Inhabited α]
theorem flat_eq (hk : ∀ x, (enc x).length = k) (k0 : 0 < k) (d : Array α) : (flatK enc k d).toList = d.toList.flatMap enc := by
  apply List.ext_getElem?
  intro t
  rw [flatMap_get hk k0]
  by_cases h : t < d.size * k
  · have ht : t / k < d.size := (Nat.div_lt_iff_lt_mul k0).2 h
    have hm : t % k < k := Nat.mod_lt _ k0
    have e := get_flatK enc k d t h
    rw [getElem!_pos _ t (by rw [size_flatK]; exact h)] at e
    rw [Array.getElem?_toList, Array.getElem?_toList, Array.getElem?_eq_getElem (by rw [size_flatK]; exact h), e, Array.getElem?_eq_getElem ht, Option.bind_some, getElem!_pos d _ ht, getElem!_pos _ _ (by rw [hk]; exact hm), List.getElem?_eq_getElem (by rw [hk]; exact hm)]
  · have ht : d.size ≤ t / k := (Nat.le_div_iff_mul_le k0).2 (by omega)
    rw [Array.getElem?_toList, Array.getElem?_toList, Array.getElem?_eq_none (by rw [size_flatK]; omega), Array.getElem?_eq_none ht]; rfl
theorem take_put (F cur : Array Value) (h : F.size ≤ cur.size) : (putCells id 0 F cur).toList.take F.size = F.toList := by
  apply List.ext_getElem?
  intro t
  rw [List.getElem?_take, Array.getElem?_toList, Array.getElem?_toList]
  by_cases ht : t < F.size
  · rw [if_pos ht]
    simp only [putCells, Array.getElem?_mapIdx]
    rw [Array.getElem?_eq_getElem (show t < cur.size by omega), Option.map_some, if_pos ⟨Nat.zero_le _, by omega⟩, Nat.sub_zero, getElem!_pos F t ht, Array.getElem?_eq_getElem ht]; rfl
  · rw [if_neg ht, Array.getElem?_eq_none (by omega)]
theorem size_put (F cur : Array Value) : (putCells id 0 F cur).size = cur.size := by simp [putCells]
theorem sortW_other (w : World) (blk m : Nat) (d : Array α) (os : Array Obj) {j : Nat} (hj : j < w.heap.size) (hne : j ≠ blk) : (sortWorldK enc k w blk 0 m d os).heap[j]? = w.heap[j]? := by
  unfold sortWorldK
  rw [heap_grow_old _ _ (by simpa [putRowK, putRow, mapBlock, ahead] using hj)]
  simp only [putRowK, putRow, mapBlock, Array.getElem?_modify]
  rw [if_neg (fun e => hne e.symm)]; rfl
theorem sortW_own (w : World) (blk m : Nat) (d : Array α) (os : Array Obj) {cur : Array Value} {t : TypeId} {fr : Nat × Nat} (hb : w.heap[blk]? = some (.cells cur t fr)) : (sortWorldK enc k w blk 0 m d os).heap[blk]? = some (.cells (putCells id 0 (flatK enc k d) cur) t fr) := by
  have hlt := blk_lt hb
  unfold sortWorldK
  rw [heap_grow_old _ _ (by simpa [putRowK, putRow, mapBlock, ahead] using hlt)]
  simp [putRowK, putRow, mapBlock, Array.getElem?_modify, hb, onCells]
theorem sortW_size (w : World) (blk m : Nat) (d : Array α) (os : Array Obj) : w.heap.size ≤ (sortWorldK enc k w blk 0 m d os).heap.size := by
  simp [sortWorldK, putRowK, putRow, mapBlock, grow]
theorem RelL.inv_v {H : Cells} : ∀ {us vs : List Value}, RelL H (us.map AV.v) vs → vs = us
  | [], _, h => by cases h; rfl
  | u :: us, _, h => by
    cases h with
    | cons h1 h2 => rw [h1.inv, h2.inv_v]
theorem RelL.of_v (H : Cells) : ∀ us : List Value, RelL H (us.map AV.v) us
  | [] => .nil
  | _ :: us => .cons (.v _) (RelL.of_v H us)
variable {P : Program} {ρ : Ren} {c : Ctx} {L : List Ent}
/-- slices.SortFunc over a row of the caller's -/
theorem sort_of (lay : SlLaysF0.n6 P ρ) (k0 : 0 < k) (aE : ∀ w, (isAgg (ρ.t 24)).run P w = .ok true w) (zE : ∀ w, (Go.sizeOf (ρ.t 24)).run P w = .ok k w) (hk : ∀ x, (enc x).length = k) (h1 : ∀ x, ∀ v ∈ enc x, v.oneCell' = true)
    (cf : α → α → Int) (hO : SWO (ltOf cf)) {g : FuncId} {caps : List AV} (hent : EntersT P g) {av : α → AV} (hav : ∀ x, av x = .agg ((enc x).map AV.v)) (hcmp : ∀ x y, FnA P g ([av x, av y] ++ caps) (I (cf x y)))
    {v : Value} {t : TypeId} {dl : List α} (i : Nat) (hi : L[i]? = some (.row v t k 0 false (dl.map av))) (hlen : dl.length < 4611686018427387904) :
    FnL P c (ρ.f 6) [.v v, .fn (.func g) caps] L fun r L' => r = .tup [] ∧ ∃ dl' : List α, dl'.Perm dl ∧ dl'.Pairwise (fun a b => ltOf cf b a = false) ∧ L' = L.set i (.row v t k 0 false (dl'.map av)) := by
  refine ⟨fun H w vs hs hr => ?_⟩
  cases hr with
  | cons r1 r2 =>
  cases r2 with
  | cons r2 r3 =>
  cases r3
  have e1 := r1.inv
  obtain ⟨cb, rfl, rcb⟩ := r2.inv_fn
  subst e1
  obtain ⟨us, hrow, hrel, hcl, hm, hno, hyes⟩ := hs.holds _ (List.mem_of_getElem? hi)
  have hrel' := hrel
  rw [flat_av hav] at hrel
  have hus := hrel.inv_v
  obtain ⟨hul, hr2⟩ := hrow
  rcases hr2 with ⟨rfl, hn⟩ | ⟨blk, cap, cur, rfl, hb, hh, hc1, hc2, hc3, hc4⟩
  · have hd : dl = [] := by simpa using hn
    subst hd
    refine Calls.mono (AnyF.slices_SortFunc_none lay none 0 (.func (.func g) #[] cb.toArray) w) ?_
    rintro e w' ⟨rfl, rfl⟩
    refine ⟨_, .tup [], H, L, rfl, ⟨rfl, [], .refl _, .nil, ?_⟩, .tup .nil, Cells.le_refl _, hs⟩
    obtain ⟨hlt, he⟩ := List.getElem?_eq_some_iff.1 hi
    apply List.ext_getElem?
    intro j
    rw [List.getElem?_set]
    by_cases hj : i = j
    · subst hj; rw [if_pos rfl, if_pos hlt]; exact hi
    · rw [if_neg hj]
  · rw [List.length_map] at hc1 hc4 hul ⊢
    have hlt := blk_lt hh
    have hfree : ∀ o, H blk o = none := fun o => hno blk rfl o (by omega)
    have hHW : ∀ (m : Nat) (d : Array α) (os : Array Obj), HIn H (sortWorldK enc k w blk 0 m d os) := fun m d os => hin_heap hs.hin fun b o u hu => by
      have hne : b ≠ blk := fun e => by subst e; rw [hfree] at hu; cases hu
      exact sortW_other w blk m d os (hs.hin.lt hu) hne
    have hH : HoldsK enc k w blk 0 dl.toArray := by
      intro j hj
      rw [size_flatK] at hj
      have hj' : j < dl.length * k := by simpa using hj
      have hjc : j < cur.size := by rw [hc3]; exact Nat.lt_of_lt_of_le hj' (Nat.mul_le_mul_right k hc1)
      have e := flat_eq hk k0 dl.toArray
      refine ⟨?_, ?_⟩
      · simp only [World.cell?, Nat.zero_add, hh, Option.isSome_none]
        have q : (flatK enc k dl.toArray).toList[j]? = cur.toList[j]? := by
          rw [e]
          show (dl.flatMap enc)[j]? = _
          rw [← hus, ← hc4, List.getElem?_take, if_pos hj']
        rw [Array.getElem?_toList, Array.getElem?_toList] at q
        simp only [Bool.false_eq_true, if_false]
        rw [← q, Array.getElem?_eq_getElem (by rw [size_flatK]; exact hj), getElem!_pos _ j (by rw [size_flatK]; exact hj)]; rfl
      · simp [World.frozen?, hh]
    have hcl' : CmpLays P g cb.toArray enc k cf blk 0 dl.toArray.size w := fun m os dk _ x y => by
      have h := (hcmp x y).out H _ (.agg (enc x).toArray :: .agg (enc y).toArray :: cb) (hHW m dk os) (.cons (by rw [hav]; exact .agg (RelL.of_v _ _)) (.cons (by rw [hav]; exact .agg (RelL.of_v _ _)) rcb))
      rw [show (.agg (enc x).toArray :: .agg (enc y).toArray :: cb : List Value).toArray = #[.agg (enc x).toArray, .agg (enc y).toArray] ++ cb.toArray by simp] at h
      refine Calls.mono h ?_
      rintro e w' ⟨v, a, H', E, rfl, ⟨rfl, rfl⟩, hv, hst⟩
      exact ⟨by rw [hv.inv], grow_of_below hst.below hst.dr⟩
    have := AnyQ.slices_SortFunc lay k aE zE enc hk h1 cf hO g cb.toArray blk 0 cap dl.toArray w hent hcl' hH hlt (by simpa using hlen)
    refine Calls.mono this ?_
    rintro e w' ⟨rfl, d', q, os, hp, hso, rfl⟩
    have hsz : d'.size = dl.length := by rw [hp.1]; simp
    have hFs : (flatK enc k d').size ≤ cur.size := by rw [size_flatK, hsz, hc3]; exact Nat.mul_le_mul_right k hc1
    refine ⟨_, .tup [], H, L.set i (.row (.slice (some ⟨blk, 0, none⟩) dl.length cap) t k 0 false (d'.toList.map av)), rfl, ⟨rfl, d'.toList, ?_, ?_, rfl⟩, .tup .nil, Cells.le_refl _, ?_⟩
    · have := hp.2.2
      simp only [List.size_toArray] at this
      rw [← hsz, Array.extract_size] at this
      rw [hsz] at this
      simpa using this
    · rw [List.pairwise_iff_getElem]
      intro a b ha hb hab
      have ha' : a < d'.size := by simpa using ha
      have hb' : b < d'.size := by simpa using hb
      have := hso a b (Nat.zero_le _) hab (by simpa [hsz] using hb')
      rw [getElem!_pos d' a ha', getElem!_pos d' b hb'] at this
      simpa using this
    · refine hs.turn hi (hHW q d' os) ?_ ?_ (.inl rfl) ?_
      · refine ⟨d'.toList.flatMap enc, ⟨?_, .inr ⟨blk, cap, putCells id 0 (flatK enc k d') cur, by simp [hsz], hb, sortW_own w blk q d' os hh, by simpa [hsz] using hc1, hc2, by rw [size_put]; exact hc3, ?_⟩⟩, ?_, ?_, Nat.zero_le _, fun g hg o _ => ?_, fun h => by cases h⟩
        · rw [← flat_eq hk k0]; simp
        · have e := take_put (flatK enc k d') cur hFs
          rw [size_flatK] at e
          rw [← flat_eq hk k0, ← e]
          simp
        · rw [flat_av hav]; exact RelL.of_v _ _
        · intro x hx
          obtain ⟨y, _, rfl⟩ := List.mem_map.1 hx
          rw [hav]; simp [AV.cells, hk]
        · simp only [Value.ownBlock, Option.some.injEq] at hg
          subst hg; exact hfree o
      · exact ⟨rfl, rfl, rfl, sortW_size w blk q d' os, fun j hj hne => sortW_other w blk q d' os hj (fun e => hne (by rw [e]; rfl))⟩
      · show w.drawn ≤ w.drawn + q
        omega
end
end Go.E2
namespace Go.E2
open Go.RowKit Go.Sort Go.Proofs Go.Shelf
section
variable {P : Program} {c : Ctx} {L : List Ent} {H : Cells} {w : World} {ρ : Ren}
abbrev enI : Int → Value := Value.int .i64
/-- an element of one cell -/
abbrev avE {α : Type} (en : α → Value) (x : α) : AV := .v (en x)
theorem flat_E {α : Type} {en : α → Value} : ∀ zs : List α, (zs.map (avE en)).flatMap AV.cells = (zs.map en).map AV.v
  | [] => rfl
  | x :: l => by rw [List.map_cons, List.flatMap_cons, flat_E l]; rfl
section
variable {α : Type} [Inhabited α] {en : α → Value}
theorem take_putE (D : Array α) (cur : Array Value) (h : D.size ≤ cur.size) {k : Nat} (hk : k ≤ D.size) : (putCells en 0 D cur).toList.take k = (D.toList.take k).map en := by
  apply List.ext_getElem?
  intro t
  rw [List.getElem?_take, List.getElem?_map, List.getElem?_take, Array.getElem?_toList, Array.getElem?_toList]
  by_cases ht : t < k
  · rw [if_pos ht, if_pos ht]
    simp only [putCells, Array.getElem?_mapIdx]
    rw [Array.getElem?_eq_getElem (show t < cur.size by omega), Option.map_some, if_pos ⟨Nat.zero_le _, by omega⟩, Nat.sub_zero, getElem!_pos D t (by omega), Array.getElem?_eq_getElem (show t < D.size by omega)]; rfl
  · rw [if_neg ht, if_neg ht]; rfl
theorem els_put {i blk cap q : Nat} {t : TypeId} {zs ys zt : List α} {os : Array Obj} (hs : St c H w L) (hi : L[i]? = some (.row (.slice (some ⟨blk, 0, none⟩) zs.length cap) t 1 0 false (zs.map (avE en)))) (hl : (ys ++ zt).length = zs.length) :
    St c H (grow (putRow en (Sort.ahead w q) blk 0 (ys ++ zt).toArray) os) (L.set i (.row (.slice (some ⟨blk, 0, none⟩) ys.length cap) t 1 0 false (ys.map (avE en)))) := by
  obtain ⟨us, hrow, _, _, _, hno, _⟩ := hs.holds _ (List.mem_of_getElem? hi)
  obtain ⟨_, hr2⟩ := hrow
  rcases hr2 with ⟨hn, _⟩ | ⟨blk', cap', cur, hv, hb, hh, hc1, hc2, hc3, hc4⟩
  · cases hn
  rw [List.length_map] at hv hc1
  cases hv
  have hyl : ys.length ≤ zs.length := by rw [List.length_append] at hl; omega
  have hlt := blk_lt hh
  have hfree : ∀ o, H blk o = none := fun o => hno blk rfl o (by omega)
  have hoth : ∀ j, j < w.heap.size → j ≠ blk → (grow (putRow en (Sort.ahead w q) blk 0 (ys ++ zt).toArray) os).heap[j]? = w.heap[j]? := fun j hj hne => by
    rw [heap_grow_old _ _ (by simpa [putRow, mapBlock, ahead] using hj)]
    simp only [putRow, mapBlock, Array.getElem?_modify]
    rw [if_neg (fun e => hne e.symm)]; rfl
  have hown : (grow (putRow en (Sort.ahead w q) blk 0 (ys ++ zt).toArray) os).heap[blk]? = some (.cells (putCells en 0 (ys ++ zt).toArray cur) t (0, 0)) := by
    rw [heap_grow_old _ _ (by simpa [putRow, mapBlock, ahead] using hlt)]
    simp [putRow, mapBlock, Array.getElem?_modify, onCells]
    exact ⟨_, hh, rfl⟩
  have hsz : w.heap.size ≤ (grow (putRow en (Sort.ahead w q) blk 0 (ys ++ zt).toArray) os).heap.size := by
    simp [grow, putRow, mapBlock]
  refine hs.turn hi (hin_heap hs.hin fun b o u hu => hoth b (hs.hin.lt hu) fun e => by subst e; rw [hfree] at hu; cases hu) ?_ ?_ (.inl rfl) ?_
  · refine ⟨ys.map en, ⟨by simp, .inr ⟨blk, cap, putCells en 0 (ys ++ zt).toArray cur, by simp, hb, hown, by simp; omega, hc2, by simp [putCells, hc3], ?_⟩⟩, ?_, ?_, Nat.zero_le _, fun g hg o _ => ?_, fun h => by cases h⟩
    · rw [List.length_map, Nat.mul_one, take_putE _ _ (by simp only [List.size_toArray]; rw [hl, hc3]; omega) (by simp)]
      simp
    · rw [flat_E]; exact RelL.of_v _ _
    · intro x hx
      obtain ⟨y, _, rfl⟩ := List.mem_map.1 hx
      rfl
    · simp only [Value.ownBlock, Option.some.injEq] at hg
      subst hg; exact hfree o
  · exact ⟨rfl, rfl, rfl, hsz, fun j hj hne => hoth j hj (fun e => hne (by rw [e]; rfl))⟩
  · show w.drawn ≤ w.drawn + q
    omega
theorem els_holds {i : Nat} {v : Value} {t : TypeId} {zs : List α} (hs : St c H w L) (hi : L[i]? = some (.row v t 1 0 false (zs.map (avE en)))) (hne : zs ≠ []) :
    ∃ blk cap, v = .slice (some ⟨blk, 0, none⟩) zs.length cap ∧ blk < w.heap.size ∧ zs.length ≤ cap ∧ Holds en w blk 0 zs.toArray := by
  obtain ⟨us, hrow, hrel, _, _, _, _⟩ := hs.holds _ (List.mem_of_getElem? hi)
  rw [flat_E] at hrel
  have hus := hrel.inv_v
  obtain ⟨hul, hr2⟩ := hrow
  rcases hr2 with ⟨_, hn⟩ | ⟨blk, cap, cur, hv, hb, hh, hc1, hc2, hc3, hc4⟩
  · exact absurd (by simpa using hn) hne
  rw [List.length_map] at hv hc1 hc4
  refine ⟨blk, cap, hv, blk_lt hh, hc1, fun j hj => ?_⟩
  have hj' : j < zs.length := by simpa using hj
  refine ⟨?_, ?_⟩
  · simp only [World.cell?, Nat.zero_add, hh, Option.isSome_none]
    have q : cur.toList[j]? = some (en zs[j]) := by
      have : (cur.toList.take (zs.length * 1))[j]? = some (en zs[j]) := by rw [hc4, hus]; simp [hj']
      rwa [List.getElem?_take, if_pos (by omega)] at this
    rw [Array.getElem?_toList] at q
    simp only [Bool.false_eq_true, if_false]
    rw [q, getElem!_pos _ j hj]; rfl
  · simp [World.frozen?, hh]
end
/-- slices.Sort over a row of the caller's -/
theorem sortI_of (lay : Lays.n189 P ρ) {v : Value} {t : TypeId} {zs : List Int} (i : Nat) (hi : L[i]? = some (.row v t 1 0 false (zs.map I))) (hne : zs ≠ []) (hlen : zs.length < 4611686018427387904) :
    FnL P c (ρ.f 189) [.v v] L fun r L' => r = .tup [] ∧ L' = L.set i (.row v t 1 0 false ((zs.mergeSort fun x y => decide (x ≤ y)).map I)) := by
  refine ⟨fun H w vs hs hr => ?_⟩
  cases hr with
  | cons r1 r2 =>
  cases r2
  have e1 := r1.inv
  subst e1
  obtain ⟨blk, cap, rfl, hb, hc, hH⟩ := els_holds (en := enI) hs hi hne
  refine Calls.mono (Any.slices_Sort_int lay blk 0 cap zs w hH hb hlen) ?_
  rintro e w' ⟨rfl, q, os, rfl⟩
  have h := els_put (en := enI) (q := q) (os := os) (ys := zs.mergeSort fun x y => decide (x ≤ y)) (zt := []) hs hi (by simp)
  rw [List.append_nil, List.length_mergeSort] at h
  exact ⟨_, .tup [], H, _, rfl, ⟨rfl, rfl⟩, .tup .nil, Cells.le_refl _, h⟩
theorem grow_nil (w : World) : grow w #[] = w := by simp [grow]
/-- slices.Compact over a row of the caller's -/
theorem compactI_of (lay : Lays2.n20 P ρ) {v : Value} {t : TypeId} {zs : List Int} (i : Nat) (hi : L[i]? = some (.row v t 1 0 false (zs.map I))) (hne : zs ≠ []) (hlen : zs.length ≤ 9223372036854775807) :
    FnL P c (ρ.f 20) [.v v] L fun r L' => ∃ v', r = .v v' ∧ L' = L.set i (.row v' t 1 0 false ((Lib.compact zs).map I)) := by
  refine ⟨fun H w vs hs hr => ?_⟩
  cases hr with
  | cons r1 r2 =>
  cases r2
  have e1 := r1.inv
  subst e1
  obtain ⟨blk, cap, rfl, hb, hc, hH⟩ := els_holds (en := enI) hs hi hne
  refine Calls.mono (Any.slices_Compact_int lay blk 0 cap zs w hH hlen hc) ?_
  rintro e w' ⟨rfl, q, rfl⟩
  have hle := Lib.compact_length_le zs
  have h := els_put (en := enI) (q := q) (os := #[]) (ys := Lib.compact zs) (zt := List.replicate (zs.length - (Lib.compact zs).length) 0) hs hi (by simp; omega)
  rw [grow_nil] at h
  exact ⟨_, .v _, H, _, rfl, ⟨_, rfl, rfl⟩, .v _, Cells.le_refl _, h⟩
/-- slices.Sort over no elements -/
theorem sortI_none (lay : Lays.n189 P ρ) {v : Value} {t : TypeId} (i : Nat) (hi : L[i]? = some (.row v t 1 0 false [])) : FnL P c (ρ.f 189) [.v v] L fun r L' => r = .tup [] ∧ L' = L := by
  refine ⟨fun H w vs hs hr => ?_⟩
  obtain ⟨us, hrow, _⟩ := hs.holds _ (List.mem_of_getElem? hi)
  have hv : ∃ p cap, v = .slice p 0 cap := by
    rcases hrow.2 with ⟨h, _⟩ | ⟨blk, cap, cur, h, _⟩
    · exact ⟨_, _, h⟩
    · exact ⟨_, _, h⟩
  obtain ⟨p, cap, rfl⟩ := hv
  cases hr with
  | cons r1 r2 =>
  cases r2
  have e1 := r1.inv
  subst e1
  refine Calls.mono (Any.slices_Sort_int_none lay p cap w) ?_
  rintro e w' ⟨rfl, rfl⟩
  exact ⟨_, .tup [], H, _, rfl, ⟨rfl, rfl⟩, .tup .nil, Cells.le_refl _, hs⟩
theorem LK.callL {T : Tr} {n : Cfg} {ops : Array Oper} {F : Fr} {K : Fr → List Ent → Prop} [TabOK P T] {d : Option Tmp} {ty : TypeId} {pos : String} {aft : Array Edge} {rest : List Oper} {f : FuncId} {x : Operand} {xs : List Operand} {as1 as2 : List AV} {ts : Array TypeId} {Φ : AV → List Ent → Prop} (hf : EntersT P f) (hc : FnL P c f as2 L Φ) (hx : oget n F x = some (.v (.func (.func f) #[] #[]))) (hv : ogets n F xs = some as1) (hsb : SbL L as1 as2)
    (k : ∀ a L', Φ a L' → putK d a F fun F => wpl P T c n ops K rest F L') : LK P T c n ops K (⟨d, .call ⟨.value x, xs.toArray, ts⟩, ty, pos, aft, none⟩ :: rest) F L :=
  ⟨fun Q hQ => Lx.callL hf rfl hx hv hsb hc fun a L' hp => (wpl_out (putK_out (k a L' hp))).out Q hQ⟩
end
end Go.E2
namespace Go.E2
open Go.RowKit
section
variable {P : Program} {c : Ctx} {m : Nat} {n : Cfg} {Q : Exit → Act → World → Prop} {F : Fr} {L : List Ent} {H : Cells} {w : World} {ds : List Deferred}
/-- iterators that hold entries O of their own: they yield the members of xs one after the other -/
structure IterO (P : Program) (gf : FuncId) (caps xs : List AV) (O : List Ent) : Prop where
  out : ∀ (c : Ctx) (lp : Nat) (I : Nat → List Ent → Prop) (S : List Ent → Prop),
    (∀ k x E L c', c'.w0 = c.w0 → c.H0.le c'.H0 → xs[k]? = some x → I k L → Yld P c' lp x (E ++ L) fun b L' => ∃ L1, L' = E ++ L1 ∧ match b with | true => I (k + 1) L1 | false => S L1) →
    ∀ L, I 0 L → FnL P c gf (.v (.func (.yield lp) #[] #[]) :: caps) (O ++ L) fun a L' => a = .tup [] ∧ ∃ O' L1, L' = O' ++ L1 ∧ (I xs.length L1 ∨ S L1)
theorem permO (A O L : List Ent) : (A ++ (O ++ L)).Perm (O ++ (A ++ L)) := by
  rw [← List.append_assoc, ← List.append_assoc]
  exact List.perm_append_comm.append_right L
theorem Cx.rangeO {g : Operand} {p : Tmp} {assign body : Code} {gf : FuncId} {a : AV} {caps xs : List AV} (hent : EntersT P gf)
    (hg : oget ⟨m, ds, none⟩ F g = some a) (hsb : Sb L a (.fn (.func gf) caps)) {O : List Ent} (hit : IterO P gf caps xs O) (J : Nat → List Ent → Prop) (S : Code → List Ent → Prop) (L0 : List Ent) (hL0 : (O ++ L0).Sublist L) (h0 : J 0 L0)
    (round : ∀ k x L c' lp T T' K K2, c'.w0 = c.w0 → xs[k]? = some x → J k L → Kasg P m lp c' body T T' K2 K → Krnd m lp c' T' (J (k + 1)) S K2 → Cx P c' ⟨m, [], some lp⟩ assign K ((p, x) :: F) (L ++ T))
    (done : ∀ L D, J xs.length L → Ex c ⟨m, mark D :: ds, none⟩ Q .normal F (.obj D (.deferred (some [])) :: L))
    (stop : ∀ cd L D, S cd L → Cx P c ⟨m, mark D :: ds, none⟩ cd Q F (.obj D (.deferred (some [])) :: L)) :
    Cx P c ⟨m, ds, none⟩ (.rangeFunc g #[p] assign body) Q F L :=
  ⟨fun H w ac hs hF dd => by
    obtain ⟨vs, eg, hcap⟩ := (hsb.rel hs (hF.eval hg)).inv_fn
    have hs := hs.sub hL0
    refine wpIn_rangeFunc fun fn _ => ?_
    have hst0 : St c H ((w.alloc (.deferred (some []))).alloc (.loop (lrec ac.tmps p w.heap.size fn assign body .ready none))) (hid (w.heap.size + 1) w.heap.size (lrec ac.tmps p w.heap.size fn assign body .ready none) ++ (O ++ L0)) := by
      have h1 := hs.trans (St.newObj hs.hin (.deferred (some [])))
      have h2 := h1.trans (St.newObj h1.hin (.loop (lrec ac.tmps p w.heap.size fn assign body .ready none)))
      simpa [hid] using h2
    have hst := hst0.perm (permO _ O L0)
    clear hst0
    generalize hW : (w.alloc (.deferred (some []))).alloc (.loop (lrec ac.tmps p w.heap.size fn assign body .ready none)) = W at hst
    have hfit0 : Fit H ⟨m, [], some (w.heap.size + 1)⟩ F ⟨ac.tmps, []⟩ := ⟨rfl, hF.size, hF.rel⟩
    have hc := (hit.out ⟨c.w0, H⟩ (w.heap.size + 1)
      (fun k L => ∃ L1, L = hid (w.heap.size + 1) w.heap.size (lrec ac.tmps p w.heap.size fn assign body .ready none) ++ L1 ∧ J k L1)
      (fun L => ∃ c L1, L = hid (w.heap.size + 1) w.heap.size (lrec ac.tmps p w.heap.size fn assign body .done (some c)) ++ L1 ∧ S c L1)
      (fun k x E L c' hc' hle hx ⟨L1, hL, hj⟩ => by
        subst hL
        exact yld_of (hfit0.mono hle) fun c'' T T' K K2 hc'' hKa hKr => round k x L1 c'' _ T T' K K2 (hc''.trans hc') hx hj hKa hKr)
      (hid (w.heap.size + 1) w.heap.size (lrec ac.tmps p w.heap.size fn assign body .ready none) ++ L0) ⟨L0, rfl, h0⟩).out H W (.func (.yield (w.heap.size + 1)) #[] #[] :: vs) hst.rebase (.cons (.v _) hcap)
    refine ⟨w.heap.size + 1, [mark w.heap.size], W, ⟨.fn (.func gf) vs.toArray, #[.func (.yield (w.heap.size + 1)) #[] #[]]⟩, W, gf, (.func (.yield (w.heap.size + 1)) #[] #[] :: vs).toArray, W, ?_, ?_, fun _ _ => trivial, ?_, fun h => by simp [wd, Fence.wide] at h, ?_⟩
    · rw [← hW]; exact run_enterLoop_outer _ _ _ _ _
    · have hy : ac.eval (.const (.func (.yield (w.heap.size + 1)) #[] #[])) = .func (.yield (w.heap.size + 1)) #[] #[] := rfl
      simp [resolve, eg, Deferred.ofValue, hy]
    · simp [invoke, hent _ W]
    · refine callsIn_wd none _ (Calls.mono hc ?_)
      rintro e w' ⟨v, b, H', L', rfl, ⟨rfl, O', L2, rfl, hp⟩, hrel, hle, hst'⟩
      have hst' := (hst.unbase hst').sub (List.sublist_append_right O' L2)
      have hfit : Fit H' ⟨m, mark w.heap.size :: ds, none⟩ F { ac with defers := [mark w.heap.size] ++ ac.defers } := ⟨by simp [hF.ds], hF.size, (hF.mono hle).rel⟩
      rcases hp with ⟨L1, rfl, hj⟩ | ⟨cd, L1, rfl, hsp⟩
      · exact ⟨none, _, run_endLoop hst'.obj (by simp [lrec]), (done L1 _ hj).out H' _ _ (hst'.putObj _).tail hfit⟩
      · exact ⟨some cd, _, run_endLoop hst'.obj (by simp [lrec]), (stop cd L1 _ hsp).out H' _ _ (hst'.putObj _).tail hfit dd⟩⟩


/-! functions that hold a range -/
structure Unm (d : Deferred) (L : List Ent) (k : List Ent → Prop) : Prop where
  out : ∃ D i, d = mark D ∧ L[i]? = some (.obj D (.deferred (some []))) ∧ k (L.eraseIdx i)
theorem Unm.at {D : Nat} {k : List Ent → Prop} (i : Nat) (hL : L[i]? = some (.obj D (.deferred (some [])))) (h : k (L.eraseIdx i)) : Unm (mark D) L k := ⟨D, i, rfl, hL, h⟩
def topKM (P : Program) (c : Ctx) (m : Nat) (rs : List ResultVar) (Φ : AV → List Ent → Prop) : List Deferred → Exit → Fr → List Ent → Prop
  | [], e, F, L => topK P c m rs Φ [] e F L
  | d :: ds, e, F, L => Unm d L fun L => topKM P c m rs Φ ds e F L
theorem topKM_exit {rs : List ResultVar} {Φ : AV → List Ent → Prop} : ∀ {ds : List Deferred} {e : Exit} {F : Fr} {L : List Ent}, topKM P c m rs Φ ds e F L → e = .ret ∨ e = .normal
  | [], e, F, L, h => by
    unfold topKM topK at h
    cases e <;> first | exact .inl rfl | exact .inr rfl | exact h.elim
  | d :: ds, e, F, L, h => by
    obtain ⟨_, _, _, _, h⟩ := h.out
    exact topKM_exit h
theorem erase_perm {i : Nat} {e : Ent} (h : L[i]? = some e) : (e :: L.eraseIdx i).Perm L := by
  obtain ⟨hi, rfl⟩ := List.getElem?_eq_some_iff.1 h
  rw [List.eraseIdx_eq_take_drop_succ]
  have := (List.perm_middle (a := L[i]) (l₁ := L.take i) (l₂ := L.drop (i + 1))).symm
  rw [← List.drop_eq_getElem_cons hi, List.take_append_drop] at this
  exact this
theorem topKM_out {fn : Func} {Φ : AV → List Ent → Prop} {K0 K : Exit → Act → World → Prop} (hk0 : Ktop P c m fn Φ K0) (hk : Kmark m c K0 K) {rs : List ResultVar} (hr : fn.results = rs.toArray) : ∀ ds e F L, topKM P c m rs Φ ds e F L → Ex c ⟨m, ds, none⟩ K e F L
  | [], e, F, L, h => by
    have := topK_out hk0 hr [] e F L h
    rcases topKM_exit h with rfl | rfl
    · exact hk.ret F L this
    · exact hk.norm F L this
  | d :: ds, e, F, L, h => by
    obtain ⟨D, i, rfl, hL, h⟩ := h.out
    have ih := topKM_out hk0 hk hr ds e F _ h
    rcases topKM_exit h with rfl | rfl
    · exact Ex.perm (erase_perm hL).symm (hk.moreR D ds F _ ih)
    · exact Ex.perm (erase_perm hL).symm (hk.moreN D ds F _ ih)
variable {T : Tr}
theorem fnM_run [TabOK P T] {f : FuncId} {fn : Func} {x : Code} {args : List AV} {Φ : AV → List Ent → Prop} {rs : List ResultVar} (hf : P.funcs[f]? = some fn) (hb : fn.body = some x) (hn : fn.ntmps = m) (ha : Nat.ble args.length m = true) (hr : fn.results = rs.toArray)
    (h : ∀ c, frmK args fun F => wpc P T c m none x (topKM P c m rs Φ) [] F []) : FnE P f args Φ :=
  fn_ofM hf hb hn ha fun c _ K hk0 hk => (wpc_out (frmK_out (h c))).out K (topKM_out hk0 hk hr)
/-! the range, in obligations -/
structure Bgn (T1 L : List Ent) (k : List Ent → Prop) : Prop where
  out : ∃ L1, (L1 ++ T1).Sublist L ∧ k L1
theorem Bgn.at {T1 : List Ent} {k : List Ent → Prop} (i : Nat) (hL : (L.take i ++ T1).Sublist L) (h : k (L.take i)) : Bgn T1 L k := ⟨_, hL, h⟩
structure Rnd {σ : Type} (q : σ → Prop) (J : σ → List Ent) (R T2 L : List Ent) : Prop where
  out : ∃ s, q s ∧ ((J s ++ R) ++ T2).Sublist L
theorem Rnd.of {σ : Type} {q : σ → Prop} {J : σ → List Ent} {R T2 : List Ent} (s : σ) (h : q s) (hL : ((J s ++ R) ++ T2).Sublist L) : Rnd q J R T2 L := ⟨s, h, hL⟩
theorem CK.range [TabOK P T] {g : Operand} {p : Tmp} {assign body : Code} {K : KT} {gf : FuncId} {a : AV} {caps xs : List AV} {O : List Ent} (hent : EntersT P gf) (hg : oget ⟨m, ds, none⟩ F g = some a) (hsb : Sb L a (.fn (.func gf) caps)) (hit : IterO P gf caps xs O)
    {σ : Type} (p0 : Nat → σ → Prop) (J : σ → List Ent) (R : List Ent) (S : Code → σ → Prop) (s0 : σ) (hp : p0 0 s0) (hL0 : (O ++ (J s0 ++ R)).Sublist L)
    (round : ∀ k x s, xs[k]? = some x → p0 k s → ∀ c' : Ctx, ∀ lp T1 T2, wpc P T c' m (some lp) assign (fun ds e F L => match ds with
      | [] => match e with
        | .normal => Bgn T1 L fun L1 => wpc P T c' m (some lp) body (fun ds e _ L => match ds with
          | [] => match e with
            | .normal => Rnd (p0 (k + 1)) J R T2 L
            | .ret => Rnd (S .ret) J R T2 L
            | .exit id => Rnd (S (.exit id)) J R T2 L
            | _ => False
          | _ => False) [] F (L1 ++ T2)
        | _ => False
      | _ => False) [] ((p, x) :: F) ((J s ++ R) ++ T1))
    (done : ∀ s D, p0 xs.length s → K (mark D :: ds) .normal F (.obj D (.deferred (some [])) :: (J s ++ R)))
    (stop : ∀ cd s D, S cd s → wpc P T c m none cd K (mark D :: ds) F (.obj D (.deferred (some [])) :: (J s ++ R))) : CK P T c m none (.rangeFunc g #[p] assign body) K ds F L := by
  refine ⟨fun Q hQ => Cx.rangeO hent hg hsb hit (fun k L => ∃ s, p0 k s ∧ L = J s ++ R) (fun cd L => ∃ s, S cd s ∧ L = J s ++ R) (J s0 ++ R) hL0 ⟨s0, hp, rfl⟩ ?_ ?_ ?_⟩
  · rintro k x _ c' lp T1 T2 K1 K2 hc hx ⟨s, hs, rfl⟩ hKa hKr
    refine (wpc_out (round k x s hx hs c' lp T1 T2)).out K1 fun ds e F L h => ?_
    split at h
    · split at h
      · obtain ⟨L1, hL, hb⟩ := h.out
        refine Ex.begin hKa L1 hL ((wpc_out hb).out K2 fun ds e F L h => ?_)
        split at h
        · split at h
          · obtain ⟨s', h1, h2⟩ := h.out
            exact Ex.round hKr (J s' ++ R) h2 ⟨s', h1, rfl⟩
          · obtain ⟨s', h1, h2⟩ := h.out
            exact Ex.roundRet hKr (J s' ++ R) h2 ⟨s', h1, rfl⟩
          · obtain ⟨s', h1, h2⟩ := h.out
            exact Ex.roundExit hKr (J s' ++ R) h2 ⟨s', h1, rfl⟩
          · exact h.elim
        · exact h.elim
      · exact h.elim
    · exact h.elim
  · rintro _ D ⟨s, hs, rfl⟩
    exact hQ _ _ _ _ (done s D hs)
  · rintro cd _ D ⟨s, hs, rfl⟩
    exact (wpc_out (stop cd s D hs)).out Q hQ
end
end Go.E2
namespace Go.E2
open Go.RowKit
section
variable {P : Program} {c : Ctx} {m : Nat} {n : Cfg} {Q : Exit → Act → World → Prop} {F : Fr} {L : List Ent} {H : Cells} {w : World} {ds : List Deferred}
def putN : List Tmp → List AV → Fr → Fr
  | p :: ps, x :: xs, F => putN ps xs ((p, x) :: F)
  | _, _, F => F
def putsV : List Tmp → List Value → Array Value → Array Value
  | p :: ps, v :: vs, tmps => putsV ps vs (tmps.setIfInBounds p v)
  | _, _, tmps => tmps
theorem zip_fold : ∀ (ps : List Tmp) (vs : List Value) (tmps : Array Value), (ps.zip vs).foldl (fun tmps (x : Tmp × Value) => tmps.setIfInBounds x.1 x.2) tmps = putsV ps vs tmps
  | p :: ps, v :: vs, tmps => by simp only [List.zip_cons_cons, List.foldl_cons, putsV]; exact zip_fold ps vs _
  | [], _, _ => by simp [putsV]
  | _ :: _, [], _ => by simp [putsV]
theorem fit_putN {ro : Option Nat} : ∀ {ps : List Tmp} {xs : List AV} {vs : List Value} {F : Fr} {tmps : Array Value}, Fit H ⟨m, [], ro⟩ F ⟨tmps, []⟩ → RelL H xs vs → Fit H ⟨m, [], ro⟩ (putN ps xs F) ⟨putsV ps vs tmps, []⟩
  | [], _, _, _, _, h, _ => by simpa [putN, putsV] using h
  | _ :: _, [], _, _, _, h, r => by cases r; simpa [putN, putsV] using h
  | p :: ps, x :: xs, _, F, tmps, h, r => by
    cases r with
    | cons r1 r2 => exact fit_putN (F := (p, x) :: F) (tmps := tmps.setIfInBounds p _) (h.put r1 (some p)) r2
theorem evals {a : Act} (h : Fit H n F a) {xs : List Operand} {avs : List AV} (e : ogets n F xs = some avs) : RelL H avs (xs.map a.eval) := (h.reads xs.toArray).list (fun x hx => by simpa using hx) e
def YldN (P : Program) (c : Ctx) (lp : Nat) (x : List AV) (L : List Ent) (Ψ : Bool → List Ent → Prop) : Prop :=
  ∀ H w vs, St c H w L → RelL H x vs → ∀ d, YieldAt Fence.wide d P lp vs.toArray w fun e w' => ∃ b H' L', e = .returned (.bool b) ∧ H.le H' ∧ Ψ b L' ∧ St c H' w' L'
variable {d : Option Tmp} {ty : TypeId} {pos : String} {aft : Array Edge} {gd : Option (Nat × Bool)} {rest : List Oper} {ops : Array Oper}
theorem Yx.yieldN {lp : Nat} {x : Operand} {ys : List Operand} {avs bs : List AV} {ts : Array TypeId} {Ψ : Bool → List Ent → Prop} (hd : rest.all (fun o => noDef o.op) = true) (hg : wantB ops n F gd = some true)
    (hx : oget n F x = some (.v (.func (.yield lp) #[] #[]))) (hv : ogets n F ys = some avs) (hs : SbL L avs bs) (hy : YldN P c lp bs L Ψ) (k : ∀ q L', Ψ q L' → Lx P c n ops Q rest (putF d (.v (.bool q)) F) L') :
    Yx P c n ops Q (⟨d, .call ⟨.value x, ys.toArray, ts⟩, ty, pos, aft, gd⟩ :: rest) F L :=
  ⟨fun H w ac hst hF dd => by
    refine wpListIn_step fun K hK => ?_
    rw [if_pos (wanted_fit (o := ⟨d, _, ty, pos, aft, gd⟩) hF.size hF.rel hg)]
    refine ⟨fun _ _ => trivial, ?_⟩
    rw [Oper.semAt_eq _ _ _ (fun c hc => by simp at hc)]
    obtain ⟨fn, tmps, asg, body, hrun, hround⟩ := hy H w (ys.map ac.eval) hst (hs.rel hst (evals hF hv)) (dd - 1)
    have hr : (execOp ac.eval ⟨d, .call ⟨.value x, ys.toArray, ts⟩, ty, pos, aft, gd⟩).run P w = .ok (.round lp fn tmps asg body) w := by
      simp only [execOp, resolve, (hF.eval hx).inv]
      simp [Deferred.ofValue, invoke] at hrun ⊢
      simp [hrun]
    rw [hr, Oper.uponIn_round]
    refine ⟨fun h => by simp [wd, Fence.wide] at h, RoundIn.mono (roundIn_wd hround) ?_⟩
    rintro e w' ⟨q, H', L', rfl, hl, hp, hst'⟩
    refine hK _ _ ?_
    have := wpList_in (P := P) (ops := ops) (ro := n.ro) (d := dd) (Q := Q) (suf := []) (K := Q) (fun a w h => h) rest hd _ _ ((k q L' hp).out H' w' _ hst' ((hF.mono hl).put (.v _) d))
    rwa [List.append_nil] at this⟩
/-- the record of a loop -/
def lrecN (tmps : Array Value) (p : List Tmp) (D : Nat) (fn : FuncId) (assign body : Code) (st : LoopState) (pd : Option Code) : Loop := { state := st, pending := pd, fn := fn, tmps := tmps, params := p.toArray, assign := assign, body := body, defers := D }
theorem yldN_of {lp D : Nat} {p : List Tmp} {fn : FuncId} {assign body : Code} {x : List AV} {E : List Ent} {J : List Ent → Prop} {S : Code → List Ent → Prop} {tmps : Array Value} (hF : Fit c.H0 ⟨m, [], some lp⟩ F ⟨tmps, []⟩)
    (h : ∀ c' T T' K K2, c'.w0 = c.w0 → Kasg P m lp c' body T T' K2 K → Krnd m lp c' T' J S K2 → Cx P c' ⟨m, [], some lp⟩ assign K (putN p x F) (L ++ T)) (hlen : p.length = x.length) :
    YldN P c lp x (E ++ (hid lp D (lrecN tmps p D fn assign body .ready none) ++ L)) (rndPost E lp D (lrecN tmps p D fn assign body) J S) := by
  intro H w vs hs hx dd
  have hl : w.heap[lp]? = some (.loop (lrecN tmps p D fn assign body .ready none)) := (hs.perm List.perm_middle).obj
  have hy : (Instr.yield lp vs.toArray).run P w = .ok (.round lp fn (putsV p vs tmps) assign body) w := by
    rw [run_yield hl (by simp [lrecN, ← hx.len, hlen])]
    simp [lrecN, zip_fold]
  refine ⟨fn, _, assign, body, hy, roundIn_of_wpIn trivial ?_⟩
  have hs' := hs.rebase
  have hfit : Fit H ⟨m, [], some lp⟩ (putN p x F) ⟨putsV p vs tmps, []⟩ := fit_putN (hF.mono hs.le) hx
  refine (h ⟨c.w0, H⟩ (.obj lp (.loop (lrecN tmps p D fn assign body .ready none)) :: .obj D (.deferred (some [])) :: E) (.obj lp (.loop (lrecN tmps p D fn assign body .busy none)) :: .obj D (.deferred (some [])) :: E) _ (roundPost P lp fun e w' => ∃ b H' L', e = .returned (.bool b) ∧ H.le H' ∧ rndPost E lp D (lrecN tmps p D fn assign body) J S b L' ∧ St c H' w' L') rfl ⟨?_⟩ ⟨?_, ?_, ?_⟩).out H w _ (hs'.perm (perm2 _ _ _ _)) hfit dd
  · intro F L hb
    refine ⟨fun H1 w1 a1 hs1 hF1 => ⟨_, run_beginRound (hs1.perm (perm1 _ _ _ _)).obj rfl, hb.out H1 _ a1 ?_ hF1 dd⟩⟩
    exact ((hs1.perm (perm1 _ _ _ _)).putObj _).perm (perm1 _ _ _ _).symm
  · intro F L hj
    refine ⟨fun H1 w1 a1 hs1 hF1 => ⟨_, _, run_endRound none (hs1.perm (perm1 _ _ _ _)).obj, true, H1, _, rfl, hs1.le, ⟨_, rfl, L, rfl, hj⟩, ?_⟩⟩
    exact hs.unbase ((((hs1.perm (perm1 _ _ _ _)).putObj _).perm (perm1 _ _ _ _).symm).perm (perm2 _ _ _ _).symm)
  · intro F L hj
    refine ⟨fun H1 w1 a1 hs1 hF1 => ⟨_, _, run_endRound (some .ret) (hs1.perm (perm1 _ _ _ _)).obj, false, H1, _, rfl, hs1.le, ⟨_, rfl, .ret, L, rfl, hj⟩, ?_⟩⟩
    exact hs.unbase ((((hs1.perm (perm1 _ _ _ _)).putObj _).perm (perm1 _ _ _ _).symm).perm (perm2 _ _ _ _).symm)
  · intro id F L hj
    refine ⟨fun H1 w1 a1 hs1 hF1 => ⟨_, _, run_endRound (some (.exit id)) (hs1.perm (perm1 _ _ _ _)).obj, false, H1, _, rfl, hs1.le, ⟨_, rfl, .exit id, L, rfl, hj⟩, ?_⟩⟩
    exact hs.unbase ((((hs1.perm (perm1 _ _ _ _)).putObj _).perm (perm1 _ _ _ _).symm).perm (perm2 _ _ _ _).symm)

/-- iterators that hold entries O of their own: they yield the members of xs one after the other -/
structure IterN (P : Program) (gf : FuncId) (caps : List AV) (xs : List (List AV)) (O : List Ent) : Prop where
  out : ∀ (c : Ctx) (lp : Nat) (I : Nat → List Ent → Prop) (S : List Ent → Prop),
    (∀ k x E L c', c'.w0 = c.w0 → c.H0.le c'.H0 → xs[k]? = some x → I k L → YldN P c' lp x (E ++ L) fun b L' => ∃ L1, L' = E ++ L1 ∧ match b with | true => I (k + 1) L1 | false => S L1) →
    ∀ L, I 0 L → FnL P c gf (.v (.func (.yield lp) #[] #[]) :: caps) (O ++ L) fun a L' => a = .tup [] ∧ ∃ O' L1, L' = O' ++ L1 ∧ (I xs.length L1 ∨ S L1)
theorem Cx.rangeN {g : Operand} {p : List Tmp} {assign body : Code} {gf : FuncId} {a : AV} {caps : List AV} {xs : List (List AV)} (hent : EntersT P gf) (hlen : ∀ x ∈ xs, p.length = x.length)
    (hg : oget ⟨m, ds, none⟩ F g = some a) (hsb : Sb L a (.fn (.func gf) caps)) {O : List Ent} (hit : IterN P gf caps xs O) (J : Nat → List Ent → Prop) (S : Code → List Ent → Prop) (L0 : List Ent) (hL0 : (O ++ L0).Sublist L) (h0 : J 0 L0)
    (round : ∀ k x L c' lp T T' K K2, c'.w0 = c.w0 → xs[k]? = some x → J k L → Kasg P m lp c' body T T' K2 K → Krnd m lp c' T' (J (k + 1)) S K2 → Cx P c' ⟨m, [], some lp⟩ assign K (putN p x F) (L ++ T))
    (done : ∀ L D, J xs.length L → Ex c ⟨m, mark D :: ds, none⟩ Q .normal F (.obj D (.deferred (some [])) :: L))
    (stop : ∀ cd L D, S cd L → Cx P c ⟨m, mark D :: ds, none⟩ cd Q F (.obj D (.deferred (some [])) :: L)) :
    Cx P c ⟨m, ds, none⟩ (.rangeFunc g p.toArray assign body) Q F L :=
  ⟨fun H w ac hs hF dd => by
    obtain ⟨vs, eg, hcap⟩ := (hsb.rel hs (hF.eval hg)).inv_fn
    have hs := hs.sub hL0
    refine wpIn_rangeFunc fun fn _ => ?_
    have hst0 : St c H ((w.alloc (.deferred (some []))).alloc (.loop (lrecN ac.tmps p w.heap.size fn assign body .ready none))) (hid (w.heap.size + 1) w.heap.size (lrecN ac.tmps p w.heap.size fn assign body .ready none) ++ (O ++ L0)) := by
      have h1 := hs.trans (St.newObj hs.hin (.deferred (some [])))
      have h2 := h1.trans (St.newObj h1.hin (.loop (lrecN ac.tmps p w.heap.size fn assign body .ready none)))
      simpa [hid] using h2
    have hst := hst0.perm (permO _ O L0)
    clear hst0
    generalize hW : (w.alloc (.deferred (some []))).alloc (.loop (lrecN ac.tmps p w.heap.size fn assign body .ready none)) = W at hst
    have hfit0 : Fit H ⟨m, [], some (w.heap.size + 1)⟩ F ⟨ac.tmps, []⟩ := ⟨rfl, hF.size, hF.rel⟩
    have hc := (hit.out ⟨c.w0, H⟩ (w.heap.size + 1)
      (fun k L => ∃ L1, L = hid (w.heap.size + 1) w.heap.size (lrecN ac.tmps p w.heap.size fn assign body .ready none) ++ L1 ∧ J k L1)
      (fun L => ∃ c L1, L = hid (w.heap.size + 1) w.heap.size (lrecN ac.tmps p w.heap.size fn assign body .done (some c)) ++ L1 ∧ S c L1)
      (fun k x E L c' hc' hle hx ⟨L1, hL, hj⟩ => by
        subst hL
        exact yldN_of (hfit0.mono hle) (fun c'' T T' K K2 hc'' hKa hKr => round k x L1 c'' _ T T' K K2 (hc''.trans hc') hx hj hKa hKr) (hlen x (List.mem_of_getElem? hx)))
      (hid (w.heap.size + 1) w.heap.size (lrecN ac.tmps p w.heap.size fn assign body .ready none) ++ L0) ⟨L0, rfl, h0⟩).out H W (.func (.yield (w.heap.size + 1)) #[] #[] :: vs) hst.rebase (.cons (.v _) hcap)
    refine ⟨w.heap.size + 1, [mark w.heap.size], W, ⟨.fn (.func gf) vs.toArray, #[.func (.yield (w.heap.size + 1)) #[] #[]]⟩, W, gf, (.func (.yield (w.heap.size + 1)) #[] #[] :: vs).toArray, W, ?_, ?_, fun _ _ => trivial, ?_, fun h => by simp [wd, Fence.wide] at h, ?_⟩
    · rw [← hW]; exact run_enterLoop_outer _ _ _ _ _
    · have hy : ac.eval (.const (.func (.yield (w.heap.size + 1)) #[] #[])) = .func (.yield (w.heap.size + 1)) #[] #[] := rfl
      simp [resolve, eg, Deferred.ofValue, hy]
    · simp [invoke, hent _ W]
    · refine callsIn_wd none _ (Calls.mono hc ?_)
      rintro e w' ⟨v, b, H', L', rfl, ⟨rfl, O', L2, rfl, hp⟩, hrel, hle, hst'⟩
      have hst' := (hst.unbase hst').sub (List.sublist_append_right O' L2)
      have hfit : Fit H' ⟨m, mark w.heap.size :: ds, none⟩ F { ac with defers := [mark w.heap.size] ++ ac.defers } := ⟨by simp [hF.ds], hF.size, (hF.mono hle).rel⟩
      rcases hp with ⟨L1, rfl, hj⟩ | ⟨cd, L1, rfl, hsp⟩
      · exact ⟨none, _, run_endLoop hst'.obj (by simp [lrecN]), (done L1 _ hj).out H' _ _ (hst'.putObj _).tail hfit⟩
      · exact ⟨some cd, _, run_endLoop hst'.obj (by simp [lrecN]), (stop cd L1 _ hsp).out H' _ _ (hst'.putObj _).tail hfit dd⟩⟩


variable {T : Tr}
theorem CK.rangeN [TabOK P T] {g : Operand} {p : List Tmp} {assign body : Code} {K : KT} {gf : FuncId} {a : AV} {caps : List AV} {xs : List (List AV)} {O : List Ent} (hent : EntersT P gf) (hlen : ∀ x ∈ xs, p.length = x.length) (hg : oget ⟨m, ds, none⟩ F g = some a) (hsb : Sb L a (.fn (.func gf) caps)) (hit : IterN P gf caps xs O)
    {σ : Type} (p0 : Nat → σ → Prop) (J : σ → List Ent) (R : List Ent) (S : Code → σ → Prop) (s0 : σ) (hp : p0 0 s0) (hL0 : (O ++ (J s0 ++ R)).Sublist L)
    (round : ∀ k x s, xs[k]? = some x → p0 k s → ∀ c' : Ctx, ∀ lp T1 T2, wpc P T c' m (some lp) assign (fun ds e F L => match ds with
      | [] => match e with
        | .normal => Bgn T1 L fun L1 => wpc P T c' m (some lp) body (fun ds e _ L => match ds with
          | [] => match e with
            | .normal => Rnd (p0 (k + 1)) J R T2 L
            | .ret => Rnd (S .ret) J R T2 L
            | .exit id => Rnd (S (.exit id)) J R T2 L
            | _ => False
          | _ => False) [] F (L1 ++ T2)
        | _ => False
      | _ => False) [] (putN p x F) ((J s ++ R) ++ T1))
    (done : ∀ s D, p0 xs.length s → K (mark D :: ds) .normal F (.obj D (.deferred (some [])) :: (J s ++ R)))
    (stop : ∀ cd s D, S cd s → wpc P T c m none cd K (mark D :: ds) F (.obj D (.deferred (some [])) :: (J s ++ R))) : CK P T c m none (.rangeFunc g p.toArray assign body) K ds F L := by
  refine ⟨fun Q hQ => Cx.rangeN hent hlen hg hsb hit (fun k L => ∃ s, p0 k s ∧ L = J s ++ R) (fun cd L => ∃ s, S cd s ∧ L = J s ++ R) (J s0 ++ R) hL0 ⟨s0, hp, rfl⟩ ?_ ?_ ?_⟩
  · rintro k x _ c' lp T1 T2 K1 K2 hc hx ⟨s, hs, rfl⟩ hKa hKr
    refine (wpc_out (round k x s hx hs c' lp T1 T2)).out K1 fun ds e F L h => ?_
    split at h
    · split at h
      · obtain ⟨L1, hL, hb⟩ := h.out
        refine Ex.begin hKa L1 hL ((wpc_out hb).out K2 fun ds e F L h => ?_)
        split at h
        · split at h
          · obtain ⟨s', h1, h2⟩ := h.out
            exact Ex.round hKr (J s' ++ R) h2 ⟨s', h1, rfl⟩
          · obtain ⟨s', h1, h2⟩ := h.out
            exact Ex.roundRet hKr (J s' ++ R) h2 ⟨s', h1, rfl⟩
          · obtain ⟨s', h1, h2⟩ := h.out
            exact Ex.roundExit hKr (J s' ++ R) h2 ⟨s', h1, rfl⟩
          · exact h.elim
        · exact h.elim
      · exact h.elim
    · exact h.elim
  · rintro _ D ⟨s, hs, rfl⟩
    exact hQ _ _ _ _ (done s D hs)
  · rintro cd _ D ⟨s, hs, rfl⟩
    exact (wpc_out (stop cd s D hs)).out Q hQ
end
end Go.E2
namespace Go.E2
open Go.RowKit
def viaTmp : Op → Bool
  | .call ⟨.value (.tmp _), _, _⟩ => true
  | _ => false
def wpcY (P : Program) (T : Tr) (c : Ctx) (m : Nat) (ro : Option Nat) : Code → KT → List Deferred → Fr → List Ent → Prop
  | .skip, K, ds, F, L => K ds .normal F L
  | .region id ops draw, K, ds, F, L => match draw with
    | false => cond (ops.toList.all fun o => noDef o.op && !viaTmp o.op) (wpl P T c ⟨m, ds, ro⟩ ops (fun F L => K ds .normal F L) ops.toList F L) (CK P T c m ro (.region id ops false) K ds F L)
    | true => CK P T c m ro (.region id ops true) K ds F L
  | .seq a b, K, ds, F, L => wpcY P T c m ro a (fun ds e F L => match e with
    | .normal => wpcY P T c m ro b K ds F L
    | e => K ds e F L) ds F L
  | .cond x a b, K, ds, F, L => rd ⟨m, ds, ro⟩ F x fun v => match v with
    | .v (.bool p) => Br p (wpcY P T c m ro a K ds F L) (wpcY P T c m ro b K ds F L)
    | _ => False
  | .block id a, K, ds, F, L => wpcY P T c m ro a (fun ds e F L => match e with
    | .exit i => cond (Nat.beq i id) (K ds .normal F L) (K ds (.exit i) F L)
    | e => K ds e F L) ds F L
  | .exit id, K, ds, F, L => K ds (.exit id) F L
  | .ret, K, ds, F, L => K ds .ret F L
  | x, K, ds, F, L => CK P T c m ro x K ds F L
section
variable {P : Program} {T : Tr} {c : Ctx} {m : Nat} {ro : Option Nat}
theorem wpcY_out [hT : TabOK P T] : ∀ {x : Code} {K : KT} {ds : List Deferred} {F : Fr} {L : List Ent}, wpcY P T c m ro x K ds F L → CK P T c m ro x K ds F L
  | .skip, K, ds, F, L, h => ⟨fun Q hQ => Cx.skip (hQ _ _ _ _ h)⟩
  | .region id ops draw, K, ds, F, L, h => by
    cases draw with
    | true => exact h
    | false =>
      simp only [wpcY] at h
      rcases cond_or h with ⟨hd, h⟩ | ⟨_, h⟩
      · refine ⟨fun Q hQ => ?_⟩
        have := Cx.region (id := id) (P := P) (c := c) (n := ⟨m, ds, ro⟩) (Q := Q) (F := F) (L := L) (l := ops.toList) (List.all_eq_true.2 fun o ho => (Bool.and_eq_true_iff.1 (List.all_eq_true.1 hd o ho)).1) (by
          rw [Array.toArray_toList]
          exact (wpl_out h).out Q fun F L hk => hQ _ _ _ _ hk)
        rwa [Array.toArray_toList] at this
      · exact h
  | .seq a b, K, ds, F, L, h => ⟨fun Q hQ => Cx.seq fun K' hK => (wpcY_out (x := a) h).out K' fun ds e F L hk => by
      cases e with
      | normal => exact Ex.seq hK ((wpcY_out (x := b) hk).out Q hQ)
      | exit i => exact hK.other ds _ F L (by simp) (hQ _ _ _ _ hk)
      | goto i => exact hK.other ds _ F L (by simp) (hQ _ _ _ _ hk)
      | ret => exact hK.other ds _ F L (by simp) (hQ _ _ _ _ hk)
      | panic i => exact hK.other ds _ F L (by simp) (hQ _ _ _ _ hk)
      | outgrown => exact hK.other ds _ F L (by simp) (hQ _ _ _ _ hk)⟩
  | .cond x a b, K, ds, F, L, h => by
    obtain ⟨v, e, h⟩ := rd_out h
    split at h
    · exact ⟨fun Q hQ => Cx.cond e (fun q => (wpcY_out (x := a) (h.t q)).out Q hQ) (fun q => (wpcY_out (x := b) (h.f q)).out Q hQ)⟩
    · exact h.elim
  | .block id a, K, ds, F, L, h => ⟨fun Q hQ => Cx.block fun K' hK => (wpcY_out (x := a) h).out K' fun ds e F L hk => by
      cases e with
      | normal => exact hK.norm ds F L (hQ _ .normal _ _ hk)
      | exit i =>
        rcases cond_or hk with ⟨e, h1⟩ | ⟨e, h1⟩
        · have := Nat.eq_of_beq_eq_true e
          clear hk
          subst this
          exact hK.out ds F L (hQ _ _ _ _ h1)
        · exact hK.other ds _ F L (by simp) (fun q => by cases q; simp at e) (hQ _ _ _ _ h1)
      | goto i => exact hK.other ds _ F L (by simp) (by simp) (hQ _ _ _ _ hk)
      | ret => exact hK.other ds _ F L (by simp) (by simp) (hQ _ _ _ _ hk)
      | panic i => exact hK.other ds _ F L (by simp) (by simp) (hQ _ _ _ _ hk)
      | outgrown => exact hK.other ds _ F L (by simp) (by simp) (hQ _ _ _ _ hk)⟩
  | .exit id, K, ds, F, L, h => ⟨fun Q hQ => Cx.exit (hQ _ _ _ _ h)⟩
  | .ret, K, ds, F, L, h => ⟨fun Q hQ => Cx.ret (hQ _ _ _ _ h)⟩
  | .loop _, K, ds, F, L, h => h
  | .rangeFunc _ _ _ _, K, ds, F, L, h => h
  | .scope _, K, ds, F, L, h => h
  | .label _, K, ds, F, L, h => h
  | .goto _, K, ds, F, L, h => h
  | .refuse _, K, ds, F, L, h => h

theorem CK.loopY [TabOK P T] {x : Code} {K : KT} {ds : List Deferred} {F : Fr} {L : List Ent} {σ : Type} (ms : List Nat) (p : σ → Prop) (I : σ → Fr) (J : σ → List Ent) (μ : σ → Nat) (s0 : σ) (hp : p s0) (h0 : Says F (I s0)) (hL0 : (J s0).Sublist L)
    (round : cutK ms F fun F0 => ∀ s, p s → appK (I s) F0 fun G => wpcY P T c m ro x (fun ds' e F L => match e with
      | .normal => Nxt ds ds' F0 p I J μ s F L
      | e => K ds' e F L) ds G (J s)) : CK P T c m ro (.loop x) K ds F L := by
  obtain ⟨F0, hF0, round⟩ := cutK_out round
  refine ⟨fun Q hQ => Cx.loopS p I J μ s0 F0 (fun t y ht => (hF0 t y ht).2) hp h0 hL0 fun s hs K' hK => ?_⟩
  refine (wpcY_out (appK_out (round s hs))).out K' fun ds' e F L hk => ?_
  cases e with
  | normal =>
    have hk' : Nxt ds ds' F0 p I J μ s F L := hk
    clear hk
    induction hk' with
    | mk h out =>
      obtain ⟨s', h1, h2, h3, h4⟩ := out
      subst h
      exact hK.norm _ _ s' h1 h2 h3 h4
    | see t h hs _ ih => exact Ex.see t h hs ih
    | frzR i hL _ ih => exact Ex.frzR i hL ih
    | frzB i hL _ ih => exact Ex.frzB i hL ih
    | perm hp _ ih => exact Ex.perm hp ih
  | exit i => exact hK.other ds' _ F L (by simp) (hQ _ _ _ _ hk)
  | goto i => exact hK.other ds' _ F L (by simp) (hQ _ _ _ _ hk)
  | ret => exact hK.other ds' _ F L (by simp) (hQ _ _ _ _ hk)
  | panic i => exact hK.other ds' _ F L (by simp) (hQ _ _ _ _ hk)
  | outgrown => exact hK.other ds' _ F L (by simp) (hQ _ _ _ _ hk)
/-! regions that yield -/
structure YK (P : Program) (c : Ctx) (n : Cfg) (ops : Array Oper) (K : Fr → List Ent → Prop) (l : List Oper) (F : Fr) (L : List Ent) : Prop where
  out : ∀ Q, (∀ F L, K F L → Ex c n Q .normal F L) → Yx P c n ops Q l F L
theorem YK.yield [TabOK P T] {n : Cfg} {ops : Array Oper} {K : Fr → List Ent → Prop} {F : Fr} {L : List Ent} {lp : Nat} {x : Operand} {ys : List Operand} {avs bs : List AV} {ts : Array TypeId} {Ψ : Bool → List Ent → Prop} {d : Option Tmp} {ty : TypeId} {pos : String} {aft : Array Edge} {rest : List Oper} (hd : rest.all (fun o => noDef o.op) = true)
    (hx : oget n F x = some (.v (.func (.yield lp) #[] #[]))) (hv : ogets n F ys = some avs) (hs : SbL L avs bs) (hy : YldN P c lp bs L Ψ) (k : ∀ q L', Ψ q L' → putK d (.v (.bool q)) F fun F => wpl P T c n ops K rest F L') :
    YK P c n ops K (⟨d, .call ⟨.value x, ys.toArray, ts⟩, ty, pos, aft, none⟩ :: rest) F L :=
  ⟨fun Q hQ => Yx.yieldN hd rfl hx hv hs hy fun q L' hq => (wpl_out (putK_out (k q L' hq))).out Q hQ⟩
theorem fnL_runY [TabOK P T] {f : FuncId} {fn : Func} {x : Code} {args : List AV} {L : List Ent} {Φ : AV → List Ent → Prop} {rs : List ResultVar} (hf : P.funcs[f]? = some fn) (hb : fn.body = some x) (hn : fn.ntmps = m) (ha : Nat.ble args.length m = true) (hr : fn.results = rs.toArray)
    (h : ∀ c' : Ctx, c'.w0 = c.w0 → c.H0.le c'.H0 → frmK args fun F => wpcY P T c' m none x (topK P c' m rs Φ) [] F L) : FnL P c f args L Φ :=
  fnL_of hf hb hn ha fun c' K hw hle hk => (wpcY_out (frmK_out (h c' hw hle))).out K (topK_outL hk hr)
end
end Go.E2
namespace Go.E2
open Go.RowKit
section
variable {P : Program} {c : Ctx} {m : Nat} {n : Cfg} {Q : Exit → Act → World → Prop} {F : Fr} {L : List Ent} {H : Cells} {w : World} {ds : List Deferred}
/-- iterators that hold entries O of their own and leave O2: after ys they may yield what step says, and may end where fin says -/
structure IterS (P : Program) (gf : FuncId) (caps : List AV) (step : List (List AV) → List AV → Prop) (fin : List (List AV) → Prop) (O O2 : List Ent) : Prop where
  out : ∀ (c : Ctx) (lp : Nat) (I : List (List AV) → List Ent → Prop) (S : List Ent → Prop),
    (∀ k x E L c', c'.w0 = c.w0 → c.H0.le c'.H0 → step k x → I k L → YldN P c' lp x (E ++ L) fun b L' => ∃ L1, L' = E ++ L1 ∧ match b with | true => I (k ++ [x]) L1 | false => S L1) →
    ∀ L, I [] L → FnL P c gf (.v (.func (.yield lp) #[] #[]) :: caps) (O ++ L) fun a L' => a = .tup [] ∧ ∃ O' L1, L' = O' ++ (O2 ++ L1) ∧ ((∃ ys, fin ys ∧ I ys L1) ∨ S L1)
theorem Cx.rangeS {g : Operand} {p : List Tmp} {assign body : Code} {gf : FuncId} {a : AV} {caps : List AV} {step : List (List AV) → List AV → Prop} {fin : List (List AV) → Prop} (hent : EntersT P gf) (hlen : ∀ ys x, step ys x → p.length = x.length)
    (hg : oget ⟨m, ds, none⟩ F g = some a) (hsb : Sb L a (.fn (.func gf) caps)) {O O2 : List Ent} (hit : IterS P gf caps step fin O O2) (J : List (List AV) → List Ent → Prop) (S : Code → List Ent → Prop) (L0 : List Ent) (hL0 : (O ++ L0).Sublist L) (h0 : J [] L0)
    (round : ∀ k x L c' lp T T' K K2, c'.w0 = c.w0 → step k x → J k L → Kasg P m lp c' body T T' K2 K → Krnd m lp c' T' (J (k ++ [x])) S K2 → Cx P c' ⟨m, [], some lp⟩ assign K (putN p x F) (L ++ T))
    (done : ∀ ys L D, fin ys → J ys L → Ex c ⟨m, mark D :: ds, none⟩ Q .normal F (.obj D (.deferred (some [])) :: (O2 ++ L)))
    (stop : ∀ cd L D, S cd L → Cx P c ⟨m, mark D :: ds, none⟩ cd Q F (.obj D (.deferred (some [])) :: (O2 ++ L))) :
    Cx P c ⟨m, ds, none⟩ (.rangeFunc g p.toArray assign body) Q F L :=
  ⟨fun H w ac hs hF dd => by
    obtain ⟨vs, eg, hcap⟩ := (hsb.rel hs (hF.eval hg)).inv_fn
    have hs := hs.sub hL0
    refine wpIn_rangeFunc fun fn _ => ?_
    have hst0 : St c H ((w.alloc (.deferred (some []))).alloc (.loop (lrecN ac.tmps p w.heap.size fn assign body .ready none))) (hid (w.heap.size + 1) w.heap.size (lrecN ac.tmps p w.heap.size fn assign body .ready none) ++ (O ++ L0)) := by
      have h1 := hs.trans (St.newObj hs.hin (.deferred (some [])))
      have h2 := h1.trans (St.newObj h1.hin (.loop (lrecN ac.tmps p w.heap.size fn assign body .ready none)))
      simpa [hid] using h2
    have hst := hst0.perm (permO _ O L0)
    clear hst0
    generalize hW : (w.alloc (.deferred (some []))).alloc (.loop (lrecN ac.tmps p w.heap.size fn assign body .ready none)) = W at hst
    have hfit0 : Fit H ⟨m, [], some (w.heap.size + 1)⟩ F ⟨ac.tmps, []⟩ := ⟨rfl, hF.size, hF.rel⟩
    have hc := (hit.out ⟨c.w0, H⟩ (w.heap.size + 1)
      (fun k L => ∃ L1, L = hid (w.heap.size + 1) w.heap.size (lrecN ac.tmps p w.heap.size fn assign body .ready none) ++ L1 ∧ J k L1)
      (fun L => ∃ c L1, L = hid (w.heap.size + 1) w.heap.size (lrecN ac.tmps p w.heap.size fn assign body .done (some c)) ++ L1 ∧ S c L1)
      (fun k x E L c' hc' hle hx ⟨L1, hL, hj⟩ => by
        subst hL
        exact yldN_of (hfit0.mono hle) (fun c'' T T' K K2 hc'' hKa hKr => round k x L1 c'' _ T T' K K2 (hc''.trans hc') hx hj hKa hKr) (hlen _ x hx))
      (hid (w.heap.size + 1) w.heap.size (lrecN ac.tmps p w.heap.size fn assign body .ready none) ++ L0) ⟨L0, rfl, h0⟩).out H W (.func (.yield (w.heap.size + 1)) #[] #[] :: vs) hst.rebase (.cons (.v _) hcap)
    refine ⟨w.heap.size + 1, [mark w.heap.size], W, ⟨.fn (.func gf) vs.toArray, #[.func (.yield (w.heap.size + 1)) #[] #[]]⟩, W, gf, (.func (.yield (w.heap.size + 1)) #[] #[] :: vs).toArray, W, ?_, ?_, fun _ _ => trivial, ?_, fun h => by simp [wd, Fence.wide] at h, ?_⟩
    · rw [← hW]; exact run_enterLoop_outer _ _ _ _ _
    · have hy : ac.eval (.const (.func (.yield (w.heap.size + 1)) #[] #[])) = .func (.yield (w.heap.size + 1)) #[] #[] := rfl
      simp [resolve, eg, Deferred.ofValue, hy]
    · simp [invoke, hent _ W]
    · refine callsIn_wd none _ (Calls.mono hc ?_)
      rintro e w' ⟨v, b, H', L', rfl, ⟨rfl, O', L2, rfl, hp⟩, hrel, hle, hst'⟩
      have hst' := (hst.unbase hst').sub (List.sublist_append_right O' (O2 ++ L2))
      have hfit : Fit H' ⟨m, mark w.heap.size :: ds, none⟩ F { ac with defers := [mark w.heap.size] ++ ac.defers } := ⟨by simp [hF.ds], hF.size, (hF.mono hle).rel⟩
      rcases hp with ⟨ys, hys, L1, rfl, hj⟩ | ⟨cd, L1, rfl, hsp⟩
      · have hst' := hst'.perm (permO (hid _ _ _) O2 L1).symm
        exact ⟨none, _, run_endLoop hst'.obj (by simp [lrecN]), (done ys L1 _ hys hj).out H' _ _ (hst'.putObj _).tail hfit⟩
      · have hst' := hst'.perm (permO (hid _ _ _) O2 L1).symm
        exact ⟨some cd, _, run_endLoop hst'.obj (by simp [lrecN]), (stop cd L1 _ hsp).out H' _ _ (hst'.putObj _).tail hfit dd⟩⟩

variable {T : Tr}
theorem CK.rangeS [TabOK P T] {g : Operand} {p : List Tmp} {assign body : Code} {K : KT} {gf : FuncId} {a : AV} {caps : List AV} {step : List (List AV) → List AV → Prop} {fin : List (List AV) → Prop} {O O2 : List Ent} (hent : EntersT P gf) (hlen : ∀ ys x, step ys x → p.length = x.length) (hg : oget ⟨m, ds, none⟩ F g = some a) (hsb : Sb L a (.fn (.func gf) caps)) (hit : IterS P gf caps step fin O O2)
    {σ : Type} (p0 : List (List AV) → σ → Prop) (J : σ → List Ent) (R : List Ent) (S : Code → σ → Prop) (s0 : σ) (hp : p0 [] s0) (hL0 : (O ++ (J s0 ++ R)).Sublist L)
    (round : ∀ k x s, step k x → p0 k s → ∀ c' : Ctx, ∀ lp T1 T2, wpc P T c' m (some lp) assign (fun ds e F L => match ds with
      | [] => match e with
        | .normal => Bgn T1 L fun L1 => wpc P T c' m (some lp) body (fun ds e _ L => match ds with
          | [] => match e with
            | .normal => Rnd (p0 (k ++ [x])) J R T2 L
            | .ret => Rnd (S .ret) J R T2 L
            | .exit id => Rnd (S (.exit id)) J R T2 L
            | _ => False
          | _ => False) [] F (L1 ++ T2)
        | _ => False
      | _ => False) [] (putN p x F) ((J s ++ R) ++ T1))
    (done : ∀ ys s D, fin ys → p0 ys s → K (mark D :: ds) .normal F (.obj D (.deferred (some [])) :: (O2 ++ (J s ++ R))))
    (stop : ∀ cd s D, S cd s → wpc P T c m none cd K (mark D :: ds) F (.obj D (.deferred (some [])) :: (O2 ++ (J s ++ R)))) : CK P T c m none (.rangeFunc g p.toArray assign body) K ds F L := by
  refine ⟨fun Q hQ => Cx.rangeS hent hlen hg hsb hit (fun k L => ∃ s, p0 k s ∧ L = J s ++ R) (fun cd L => ∃ s, S cd s ∧ L = J s ++ R) (J s0 ++ R) hL0 ⟨s0, hp, rfl⟩ ?_ ?_ ?_⟩
  · rintro k x _ c' lp T1 T2 K1 K2 hc hx ⟨s, hs, rfl⟩ hKa hKr
    refine (wpc_out (round k x s hx hs c' lp T1 T2)).out K1 fun ds e F L h => ?_
    split at h
    · split at h
      · obtain ⟨L1, hL, hb⟩ := h.out
        refine Ex.begin hKa L1 hL ((wpc_out hb).out K2 fun ds e F L h => ?_)
        split at h
        · split at h
          · obtain ⟨s', h1, h2⟩ := h.out
            exact Ex.round hKr (J s' ++ R) h2 ⟨s', h1, rfl⟩
          · obtain ⟨s', h1, h2⟩ := h.out
            exact Ex.roundRet hKr (J s' ++ R) h2 ⟨s', h1, rfl⟩
          · obtain ⟨s', h1, h2⟩ := h.out
            exact Ex.roundExit hKr (J s' ++ R) h2 ⟨s', h1, rfl⟩
          · exact h.elim
        · exact h.elim
      · exact h.elim
    · exact h.elim
  · rintro ys _ D hys ⟨s, hs, rfl⟩
    exact hQ _ _ _ _ (done ys s D hys hs)
  · rintro cd _ D ⟨s, hs, rfl⟩
    exact (wpc_out (stop cd s D hs)).out Q hQ

/-! functions over the caller's context that hold a range -/
theorem Bgn.of {T1 : List Ent} {k : List Ent → Prop} (L1 : List Ent) (hL : (L1 ++ T1).Sublist L) (h : k L1) : Bgn T1 L k := ⟨L1, hL, h⟩
theorem FnL.front {f : FuncId} {args : List AV} {Φ : AV → List Ent → Prop} {e : Ent} (i : Nat) (hL : L[i]? = some e) (h : FnL P c f args (e :: L.eraseIdx i) Φ) : FnL P c f args L Φ := ⟨fun H w vs hs hr => h.out H w vs (hs.perm (erase_perm hL).symm) hr⟩
/-! methods called through interfaces -/
structure Meth (P : Program) (name : String) (x : Value) (f : FuncId) (u : Value) : Prop where
  out : ∀ args w, (invoke (.fn (.method name) #[]) (#[x] ++ args)).run P w = .ok (.enter f (#[u] ++ args)) w
variable {d : Option Tmp} {ty : TypeId} {pos : String} {aft : Array Edge} {gd : Option (Nat × Bool)} {rest : List Oper} {ops : Array Oper}
theorem Lx.callI {f : FuncId} {x : Operand} {nm : String} {iv u : Value} {xs : List Operand} {avs' avs : List AV} {ts : Array TypeId} {Φ : AV → List Ent → Prop} (hf : Meth P nm iv f u) (hg : wantB ops n F gd = some true) (hx : oget n F x = some (.v iv)) (hv : ogets n F xs = some avs') (hsb : SbL L avs' avs) {a0 : AV} (ha : ∀ H, Rel H a0 u) (hc : FnE P f (a0 :: avs) Φ)
    (k : ∀ a E, Φ a E → Lx P c n ops Q rest (putF d a F) (E ++ L)) : Lx P c n ops Q (⟨d, .call ⟨.invoke x nm, xs.toArray, ts⟩, ty, pos, aft, gd⟩ :: rest) F L :=
  ⟨fun H w a hs hF => by
    refine wpList_step fun K hK => ?_
    rw [if_pos (wanted_fit (o := ⟨d, _, ty, pos, aft, gd⟩) hF.size hF.rel hg)]
    unfold Oper.wp
    have hr := hF.reads (Op.call ⟨.invoke x nm, xs.toArray, ts⟩).operands
    have e1 := hr.v (by simp [Op.operands, Call.operands]) hx
    have e2 : (execOp a.eval ⟨d, .call ⟨.invoke x nm, xs.toArray, ts⟩, ty, pos, aft, gd⟩).run P w = .ok (.enter f (#[u] ++ (xs.map a.eval).toArray)) w := by
      simp only [execOp, resolve, e1]
      have := hf.out (xs.map a.eval).toArray w
      simpa using this
    rw [e2]
    simp only [Oper.upon]
    have h := hc.out H w (u :: xs.map a.eval) hs.hin (.cons (ha H) (hsb.rel hs (hr.list (fun y hy => by simp [Op.operands, Call.operands, hy]) hv)))
    rw [show (#[u] ++ (xs.map a.eval).toArray : Array Value) = (u :: xs.map a.eval).toArray by simp]
    refine Calls.mono h ?_
    rintro e w' ⟨v, b, H', E, rfl, hp, hrel, hst⟩
    exact hK _ _ ((k b E hp).out H' w' _ (hs.trans hst) ((hF.mono hst.le).put hrel d))⟩
theorem LK.callI [TabOK P T] {K : Fr → List Ent → Prop} {f : FuncId} {x : Operand} {nm : String} {iv u : Value} {xs : List Operand} {as1 as2 : List AV} {ts : Array TypeId} {Φ : AV → List Ent → Prop} (hf : Meth P nm iv f u) (hx : oget n F x = some (.v iv)) (hv : ogets n F xs = some as1) (hsb : SbL L as1 as2) {a0 : AV} (ha : ∀ H, Rel H a0 u) (hc : FnE P f (a0 :: as2) Φ)
    (k : ∀ a E, Φ a E → putK d a F fun F => wpl P T c n ops K rest F (E ++ L)) : LK P T c n ops K (⟨d, .call ⟨.invoke x nm, xs.toArray, ts⟩, ty, pos, aft, none⟩ :: rest) F L :=
  ⟨fun Q hQ => Lx.callI hf rfl hx hv hsb ha hc fun a E hp => (wpl_out (putK_out (k a E hp))).out Q hQ⟩
end
end Go.E2
namespace Go.E2
open Go.RowKit
section
variable {P : Program} {c : Ctx} {n : Cfg} {F : Fr} {L : List Ent} {t t' ty : TypeId} {x y : Operand} {a b : Int}
end
end Go.E2
namespace Go.E2
open Go.RowKit
section
variable {P : Program} {T : Tr} {c : Ctx} {m : Nat} {n : Cfg} {Q : Exit → Act → World → Prop} {F : Fr} {L : List Ent} {H : Cells} {w : World} {ds : List Deferred}
theorem SbL.each {α : Type} {f g : α → AV} : ∀ {l : List α}, (∀ x ∈ l, Sb L (f x) (g x)) → SbL L (l.map f) (l.map g)
  | [], _ => .nil
  | x :: l, h => .cons (h x (by simp)) (SbL.each fun y hy => h y (by simp [hy]))
/-- what a call leaves, turned -/
theorem FnE.step {f : FuncId} {args : List AV} {Φ Ψ : AV → List Ent → Prop} (h : FnE P f args Φ) (hm : ∀ a E, Φ a E → ∃ E', Ψ a E' ∧ ∀ c H w, St c H w E → ∃ H', H.le H' ∧ St c H' w E') : FnE P f args Ψ :=
  ⟨fun H w vs hi hr => Calls.mono (h.out H w vs hi hr) fun _ _ ⟨v, a, H', E, he, hp, hs, hst⟩ => by
    obtain ⟨E', h1, h2⟩ := hm a E hp
    obtain ⟨H2, l2, s2⟩ := h2 _ _ _ hst
    exact ⟨v, a, H2, E', he, h1, hs.mono l2, s2⟩⟩
theorem ogets_op {ops : Array Oper} {G : Fr} : ∀ {xs : List Operand}, (∀ x ∈ xs, oget n F x = oget n G x) → ogets n F xs = ogets n G xs
  | [], _ => rfl
  | x :: xs, h => by
    have ih := ogets_op (ops := ops) (xs := xs) fun y hy => h y (by simp [hy])
    simp only [ogets, h x (by simp), ih]
variable {ops : Array Oper} {d : Option Tmp} {ty : TypeId} {pos : String} {aft : Array Edge}
theorem Eff.callL {f : FuncId} {x : Operand} {xs : List Operand} {as1 as2 : List AV} {ts : Array TypeId} {Φ : AV → List Ent → Prop} (hf : EntersT P f) (hx : oget n F x = some (.v (.func (.func f) #[] #[]))) (hv : ogets n F xs = some as1) (hsb : SbL L as1 as2) (hc : FnL P c f as2 L Φ) :
    Eff P c n ops ⟨d, .call ⟨.value x, xs.toArray, ts⟩, ty, pos, aft, none⟩ F L Φ :=
  ⟨fun G Q hag hk => Lx.callL hf rfl (by rw [← look_op hag (by simp [Op.operands, Call.operands])]; exact hx) (by rw [← ogets_op (ops := ops) fun y hy => look_op hag (by simp [Op.operands, Call.operands, hy])]; exact hv) hsb hc hk⟩
end
end Go.E2
namespace Go.E2
open Go.RowKit
structure FldV (P : Program) (s i off : Nat) : Prop where
  out : ∃ fs f, P.underlying s = some (.struct fs) ∧ fs[i]? = some f ∧ f.offset = off ∧ OneT P f.type
end Go.E2
namespace Go.E2
open Go.RowKit
section
variable {P : Program} {T : Tr} {c : Ctx} {n : Cfg} {ops : Array Oper} {F : Fr} {L : List Ent} {ty : TypeId} {d : Option Tmp} {pos : String} {aft : Array Edge}
end
end Go.E2
namespace Go.E2
/-! the cells of a row seen otherwise -/
theorem SbL.app {L : List Ent} : ∀ {a b c d : List AV}, SbL L a b → SbL L c d → SbL L (a ++ c) (b ++ d)
  | _, _, _, _, .nil, h => h
  | _, _, _, _, .cons x t, h => .cons x (SbL.app t h)
inductive SbE (L : List Ent) : List AV → List AV → Prop
  | nil : SbE L [] []
  | cons {x y : AV} {xs ys : List AV} (h : SbL L x.cells y.cells) (hl : x.cells.length = y.cells.length) (t : SbE L xs ys) : SbE L (x :: xs) (y :: ys)
theorem SbE.flat {L : List Ent} : ∀ {xs ys : List AV}, SbE L xs ys → SbL L (xs.flatMap AV.cells) (ys.flatMap AV.cells)
  | _, _, .nil => .nil
  | _, _, .cons h _ t => by
    rw [List.flatMap_cons, List.flatMap_cons]
    exact SbL.app h (SbE.flat t)
theorem SbE.refl (L : List Ent) : ∀ xs : List AV, SbE L xs xs
  | [] => .nil
  | _ :: xs => .cons (SbL.refl _) rfl (SbE.refl L xs)
theorem SbE.len {L : List Ent} : ∀ {xs ys : List AV}, SbE L xs ys → ys.length = xs.length
  | _, _, .nil => rfl
  | _, _, .cons _ _ t => by simp [SbE.len t]
theorem SbE.cells {L : List Ent} {k : Nat} : ∀ {xs ys : List AV}, SbE L xs ys → (∀ x ∈ xs, x.cells.length = k) → ∀ y ∈ ys, y.cells.length = k
  | _, _, .nil, _, y, hy => by cases hy
  | _, _, .cons h hl t, hx, y, hy => by
    rcases List.mem_cons.1 hy with rfl | hy
    · rw [← hl]; exact hx _ (by simp)
    · exact SbE.cells t (fun x hx' => hx x (by simp [hx'])) y hy
theorem SbE.set {L : List Ent} {x y : AV} (h : SbL L x.cells y.cells) (hl : x.cells.length = y.cells.length) : ∀ (a : Nat) (xs : List AV), SbE L (xs.set a x) (xs.set a y)
  | _, [] => .nil
  | 0, _ :: xs => .cons h hl (SbE.refl L xs)
  | a + 1, _ :: xs => .cons (SbL.refl _) rfl (SbE.set h hl a xs)
theorem St.seeRow {c : Ctx} {H : Cells} {w : World} {L : List Ent} {i : Nat} {v : Value} {t : TypeId} {k m : Nat} {z : Bool} {xs xs' : List AV} (h : St c H w L) (hL : L[i]? = some (.row v t k m z xs)) (hs : SbE L xs xs') : St c H w (L.set i (.row v t k m z xs')) := by
  obtain ⟨us, h1, h2, h3, h4, h5, h6⟩ := h.holds _ (List.mem_of_getElem? hL)
  exact h.more hL (Cells.le_refl _) h.hin (fun _ _ _ => rfl) ⟨us, by rw [hs.len]; exact h1, hs.flat.rel h h2, hs.cells h3, by rw [hs.len]; exact h4, h5, h6⟩ rfl
theorem Lx.seeRow {P : Program} {c : Ctx} {n : Cfg} {ops : Array Oper} {Q : Exit → Act → World → Prop} {F : Fr} {L : List Ent} {l : List Oper} (i : Nat) {v : Value} {t : TypeId} {k m : Nat} {z : Bool} {xs xs' : List AV} (hL : L[i]? = some (.row v t k m z xs)) (hs : SbE L xs xs') (kk : Lx P c n ops Q l F (L.set i (.row v t k m z xs'))) : Lx P c n ops Q l F L :=
  ⟨fun H w a hst hF => kk.out H w a (hst.seeRow hL hs) hF⟩
end Go.E2
namespace Go.E2
open Go.RowKit
section
variable {P : Program} {c : Ctx} {n : Cfg} {Q : Exit → Act → World → Prop} {F G : Fr} {L L0 : List Ent} {ops : Array Oper}
/-! regions of open order whose free operations read what the chain turns -/
inductive Kw (P : Program) (c : Ctx) (n : Cfg) (ops : Array Oper) (W : List Nat → List Ent → Prop) (K : Fr → List Ent → Prop) : List Nat → Fr → List Ent → Prop
  | nil {F : Fr} {L : List Ent} (h : K F L) : Kw P c n ops W K [] F L
  | cons {i : Nat} {is : List Nat} {o : Oper} {F : Fr} {L : List Ent} (ho : ops[i]? = some o) (R : AV → List Ent → Prop) (hs : Eff P c n ops o F L R) (hw : W (i :: is) L)
      (hk : ∀ r L', R r L' → Kw P c n ops W K is (putF o.dst r F) L') : Kw P c n ops W K (i :: is) F L
theorem wpAny_mixW {m : Nat} {K : Fr → List Ent → Prop} {cs0 : List Nat} {Ff : Fr} (hM : Mix ops m cs0) {W : List Nat → List Ent → Prop} {s0 : Nat} (hs0 : s0 ∈ cs0) (hs1 : ∀ i o, ops[i]? = some o → i ∉ cs0 → edgeB ops s0 i = true)
    (hK : ∀ F L H w a, K F L → St c H w L → Fit H n F a → wpList P ops (OnlyN Q) [] a w)
    (hfl : ∀ rest L i o, W rest L → rest ≠ [] → ops[i]? = some o → i ∉ cs0 → ∃ r, YieldsA P c n L ops o Ff r ∧ ∀ d, o.dst = some d → look Ff d = some r) :
    ∀ (fuel : Nat) (listed : Array Bool) (cs : List Nat) (F G : Fr) (L : List Ent) (H : Cells) (w : World) (a : Act), listed.size = m → Closed ops listed → unl m listed = fuel →
      (∀ i ∈ cs, listed.getD i true = false) → (∀ i ∈ cs0, i ∈ cs ∨ listed.getD i true = true) → (∀ i ∈ cs, i ∈ cs0) → cs.Nodup → chE ops cs = true → Kw P c n ops W K cs F L →
      (∀ s, (∀ i o, i ∈ cs0 → ops[i]? = some o → listed.getD i true = true → o.dst ≠ some s) → look F s = look Ff s) →
      (∀ s, (∀ i o, ops[i]? = some o → listed.getD i true = false → i ∉ cs0 → o.dst ≠ some s) → look G s = look F s) →
      St c H w L → Fit H n G a → wpAny P .any ops (OnlyN Q) fuel listed a w := by
  intro fuel
  induction fuel with
  | zero =>
    intro listed cs F G L H w a hsz hc hu h1 h2 h3 hn hch hk hFf hG hst hF
    have hz := unl_zero hu
    have hlt : ∀ {i : Nat} {o : Oper}, ops[i]? = some o → i < m := fun ho => by rw [← hM.size]; exact (Array.getElem?_eq_some_iff.1 ho).1
    cases hk with
    | cons ho R hs hw hk =>
      have := hz _ (hlt ho)
      rw [h1 _ (by simp)] at this
      cases this
    | nil hk =>
      refine ⟨?_, hK F L H w a hk hst (hF.weak fun s x hx => ?_)⟩
      · rw [List.eq_nil_iff_forall_not_mem]
        intro i hi
        obtain ⟨g1, o, ho, _⟩ := mem_ready.1 hi
        rw [hz i (hlt ho)] at g1
        cases g1
      · rw [hG s fun i o ho hl _ => by rw [hz i (hlt ho)] at hl; cases hl]
        exact hx
  | succ fuel ih =>
    intro listed cs F G L H w a hsz hc hu h1 h2 h3 hn hch hk hFf hG hst hF
    refine ⟨fun h0 => ?_, fun i hi => ?_⟩
    · exfalso
      obtain ⟨i, hi, hl⟩ := unl_pos (k := m) (listed := listed) (by omega)
      obtain ⟨j, g1, g2, g3⟩ := min_unl i hl
      have hjm : j < ops.size := by have := hM.size; omega
      have hj : j ∈ Region.ready .any ops listed := mem_ready.2 ⟨g2, ops[j], Array.getElem?_eq_getElem hjm, fun e he hb => by
        have hlt := hM.back j _ (Array.getElem?_eq_getElem hjm) e he hb
        have := g3 e.on hlt
        have hel : e.on < listed.size := by omega
        simp [hel] at this ⊢
        exact this⟩
      rw [h0] at hj
      cases hj
    obtain ⟨hun, o, ho, _⟩ := mem_ready.1 hi
    have him : i < m := by rw [← hM.size]; exact (Array.getElem?_eq_some_iff.1 ho).1
    have hil : i < listed.size := by omega
    have hus := unl_set hil hun m
    rw [if_pos him] at hus
    have hag : ∀ d, d ∈ o.looksAt ops → look F d = look G d := fun d hd => (hG d fun i' o' ho' hl' hn' he => (hM.deps i i' o o' d ho ho' he hd).elim (fun h => ready_edge hi h.1 hl') (fun h => hn' h.1)).symm
    by_cases hic : i ∈ cs0
    · have hics : i ∈ cs := (h2 i hic).resolve_right (by rw [hun]; simp)
      cases hk with
      | nil => cases hics
      | @cons j rest o' _ _ ho' R hs hw hk =>
        have e : j = i := by
          rcases List.mem_cons.1 hics with e | hr
          · exact e.symm
          · obtain ⟨x, hx, he⟩ := chE_mem hch hr
            exact (ready_edge hi he (h1 x hx)).elim
        subst e
        rw [ho] at ho'
        cases ho'
        refine wpOp_one ho (Q1 := fun _ a' w' => wpAny P .any ops (OnlyN Q) fuel (listed.setIfInBounds j true) a' w') (fun _ _ h => h) ((hs.out G _ hag fun r L' hR => Lx.nil ⟨fun H' w' a' hst' hF' => ?_⟩).out H w a hst hF)
        refine ih _ rest (putF o.dst r F) (putF o.dst r G) L' H' w' a' (by simpa using hsz) (hc.set hi) (by omega) (fun x hx => ?_) (fun x hx => ?_) (fun x hx => h3 x (List.mem_cons_of_mem _ hx)) (List.nodup_cons.1 hn).2 (chE_tl hch) (hk r L' hR) (fun s hs' => ?_) (fun s hs' => ?_) hst' hF'
        · rw [getD_set_ne true (fun e => (List.nodup_cons.1 hn).1 (by rw [e]; exact hx))]
          exact h1 x (List.mem_cons_of_mem _ hx)
        · by_cases e : j = x
          · right
            subst e
            simp [hil]
          · rcases h2 x hx with h | h
            · rcases List.mem_cons.1 h with h | h
              · exact absurd h.symm e
              · exact .inl h
            · right
              rw [getD_set_ne true e]
              exact h
        · rw [put_ne (hs' j o hic ho (by simp [hil]))]
          exact hFf s fun i' o' hi' ho' hl' => hs' i' o' hi' ho' (by
            by_cases e : j = i'
            · subst e; simp [hil]
            · rw [getD_set_ne true e]; exact hl')
        · exact put_eq (hG s fun i' o' ho' hl' hn' => hs' i' o' ho' (by rw [getD_set_ne true (fun e => hn' (by rw [← e]; exact hic))]; exact hl') hn')
    · have hcne : cs ≠ [] := fun e => by
        rcases h2 s0 hs0 with h | h
        · rw [e] at h; cases h
        · exact closed_edge hc h (by
            rcases Nat.lt_or_ge s0 listed.size with hlt | hge
            · exact hlt
            · obtain ⟨o', ho', _⟩ := edgeB_spec (hs1 i o ho hic)
              have h9 := (Array.getElem?_eq_some_iff.1 ho').1
              have := hM.size
              omega) hil (hs1 i o ho hic) hun
      have hWL : W cs L := by cases hk with | nil => exact absurd rfl hcne | cons ho R hs hw hk => exact hw
      obtain ⟨r, hy, hd⟩ := hfl cs L i o hWL hcne ho hic
      have hy' : YieldsA P c n L ops o G r := hy.congr fun d hd' => by
        rw [← hag d hd']
        exact (hFf d fun i' o' hi' ho' hl' he => (hM.deps i i' o o' d ho ho' he hd').elim (fun h => h.2 hic hi') (fun h => closed_edge hc hl' (by have := (Array.getElem?_eq_some_iff.1 ho').1; have := hM.size; omega) hil h.2 hun)).symm
      have hnext : ∀ H' w' v, H.le H' → St c H' w' L → Rel H' r v → wpAny P .any ops (OnlyN Q) fuel (listed.setIfInBounds i true) (a.put o.dst v) w' := fun H' w' v hle hs' hr => by
        refine ih _ cs F (putF o.dst r G) L H' w' _ (by simpa using hsz) (hc.set hi) (by omega) (fun x hx => ?_) (fun x hx => ?_) h3 hn hch hk (fun s hs'' => hFf s fun i' o' hi' ho' hl' => hs'' i' o' hi' ho' (by rw [getD_set_ne true (fun e => hic (by rw [e]; exact hi'))]; exact hl')) (fun s hs'' => ?_) hs' ((hF.mono hle).put hr o.dst)
        · rw [getD_set_ne true (fun e => hic (by rw [e]; exact h3 x hx))]
          exact h1 x hx
        · rcases h2 x hx with h | h
          · exact .inl h
          · right
            rw [getD_set_ne true (fun e => hic (by rw [e]; exact hx))]
            exact h
        · by_cases e : o.dst = some s
          · rw [hFf s fun i' o' hi' ho' _ he => hic (by rw [← hM.dist i' i o' o s ho' ho e he]; exact hi'), hd s e, e]
            exact look_cons_self _ _ _
          · rw [put_ne e]
            refine hG s fun i' o' ho' hl' hn' => ?_
            by_cases e' : i = i'
            · subst e'
              rw [ho] at ho'
              cases ho'
              exact e
            · exact hs'' i' o' ho' (by rw [getD_set_ne true e']; exact hl') hn'
      unfold wpOp
      simp only [ho]
      rcases hy'.cases with ⟨_, hw, hg, hrr⟩ | ⟨hw, hrr⟩
      · rw [if_pos (wanted_fit hF.size hF.rel hw)]
        exact .inl (oper_wp_grows hst (hg.out H w a.eval hst (hF.reads _) o.dst o.pos o.after o.guard) fun H' w' v hl hs' hr => hnext H' w' v hl hs' (hrr _ _ hr))
      · rw [if_neg (by rw [wanted_fit hF.size hF.rel hw]; simp)]
        exact hnext H w undef (Cells.le_refl _) hst (hrr _)
theorem Cx.anyW {id : Nat} {l : List Oper} {m : Nat} (fs cs : List Nat) {W : List Nat → List Ent → Prop} (s0 : Nat) (hs0 : s0 ∈ cs) (hs1 : fs.all (fun i => edgeB l.toArray s0 i) = true) {Ff : Fr} (hm : P.follows .mixedOrders = true) (hl : l.length = m) (hd : l.all (fun o => noDef o.op) = true)
    (hB : mixB l.toArray m cs = true) (hC : partB l.toArray m fs cs = true)
    (h : ∀ rest L', W rest L' → rest ≠ [] → RunA P c n L' l.toArray (fs.map fun i => l.getD i default) F Ff) (h2 : Kw P c n l.toArray W (fun F L' => Lx P c n l.toArray Q [] F L') cs Ff L) : Cx P c n (.region id l.toArray true) Q F L :=
  ⟨fun H w a hs hF _ => by
    have hsz : l.toArray.size = m := by simpa using hl
    have hM := mix_of hsz hB
    simp only [partB, Bool.and_eq_true, List.all_eq_true, List.mem_range, Bool.or_eq_true, Bool.not_eq_true', List.contains_eq_mem, decide_eq_false_iff_not, decide_eq_true_eq] at hC
    obtain ⟨⟨⟨⟨⟨c1, c2⟩, c3⟩, c4⟩, c6⟩, c5⟩ := hC
    refine wpIn_of_any hd hm ?_
    have hget : ∀ i ∈ fs, l.toArray[i]? = some (l.getD i default) := fun i hi => by
      have : i < l.length := by rw [hl]; exact Nat.le_of_ble_eq_true (c4 i hi).1
      simp [this]
    have fall := fun L' (h1 : RunA P c n L' l.toArray (fs.map fun i => l.getD i default) F Ff) => h1.full (by
        rw [List.pairwise_map]
        refine (List.Pairwise.and_mem.1 (ascB_pw c1)).imp ?_
        rintro i j ⟨hi, hj, hij⟩ d hd
        refine ⟨fun hm => ?_, fun he => ?_⟩
        · have := ((hM.deps i j _ _ d (hget i hi) (hget j hj) hd hm).resolve_right fun h => (c4 j hj).2 h.1).1
          obtain ⟨o, ho, e, e1, e2, e3⟩ := edgeB_spec this
          have := hM.back i o ho e e1 e2
          omega
        · have := hM.dist i j _ _ d (hget i hi) (hget j hj) hd he
          omega) (fun o ho d hd hm => by
        obtain ⟨i, hi, rfl⟩ := List.mem_map.1 ho
        have := ((hM.deps i i _ _ d (hget i hi) (hget i hi) hd hm).resolve_right fun h => (c4 i hi).2 h.1).1
        obtain ⟨o, ho, e, e1, e2, e3⟩ := edgeB_spec this
        have := hM.back i o ho e e1 e2
        omega)
    have hfl : ∀ i o, l.toArray[i]? = some o → i ∉ cs → i ∈ fs ∧ o = l.getD i default := fun i o ho hn => by
      have him : i < m := by rw [← hsz]; exact (Array.getElem?_eq_some_iff.1 ho).1
      have hi := (c5 i him).resolve_left hn
      refine ⟨hi, ?_⟩
      rw [hget i hi] at ho
      exact (Option.some.inj ho).symm
    have hun : ∀ k, k ≤ m → unl k (Array.replicate m false) = k := by
      intro k
      induction k with
      | zero => intro _; rfl
      | succ k ih =>
        intro hk
        have h3 := ih (by omega)
        simp only [unl, h3]
        rw [if_pos (by simp [show k < m by omega])]
    have hne0 : cs ≠ [] := fun e => by rw [e] at hs0; cases hs0
    have hW0 : W cs L := by cases h2 with | nil => exact absurd rfl hne0 | cons _ _ _ hw _ => exact hw
    rw [hsz]
    have := wpAny_mixW (P := P) (Q := Q) (K := fun F L' => Lx P c n l.toArray Q [] F L') (Ff := Ff) hM hs0 (fun i o ho hn => List.all_eq_true.1 hs1 i (hfl i o ho hn).1) (fun F L H w a k hst hF => k.out H w a hst hF)
      (fun rest L' i o hW hne ho hn => by
        obtain ⟨hi, rfl⟩ := hfl i o ho hn
        exact (fall L' (h rest L' hW hne)).1 _ (List.mem_map.2 ⟨i, hi, rfl⟩)) m (Array.replicate m false) cs Ff F L H _ a (by simp) (fun k o ho hk => by simp [Array.getElem?_replicate] at hk; split at hk <;> simp_all) (hun m (Nat.le_refl _))
      (fun i hi => by
        have him : i < m := Nat.le_of_ble_eq_true (c6 i hi)
        simp [him]) (fun i hi => .inl hi) (fun i hi => hi) ((ascB_pw c2).imp fun h => Nat.ne_of_lt h) c3 h2 (fun s _ => rfl) (fun s hs' => by
          refine ((fall L (h cs L hW0 hne0)).2 s fun o ho he => ?_).symm
          obtain ⟨i, hi, rfl⟩ := List.mem_map.1 ho
          have him : i < m := Nat.le_of_ble_eq_true (c4 i hi).1
          exact hs' i _ (hget i hi) (by simp [him]) (c4 i hi).2 he) hs.drew hF
    exact this⟩
/-- the same, as code -/
theorem CK.anyW {T : Tr} [hT : TabOK P T] {m : Nat} {ro : Option Nat} {K : KT} {ds : List Deferred} {id : Nat} {ops : Array Oper} (fs cs : List Nat) (W : List Nat → List Ent → Prop) (s0 : Nat) (hs0 : s0 ∈ cs) (hs1 : fs.all (fun i => edgeB ops s0 i) = true) (hB : anyKB ops fs cs = true) (Ff : Fr)
    (h : ∀ rest L', W rest L' → rest ≠ [] → wpo P T c ⟨m, ds, ro⟩ ops L' (fun F' => F' = Ff) (fs.map fun i => ops.toList.getD i default) F)
    (hk : Kw P c ⟨m, ds, ro⟩ ops W (fun F L => K ds .normal F L) cs Ff L) : CK P T c m ro (.region id ops true) K ds F L := by
  simp only [anyKB, Bool.and_eq_true] at hB
  obtain ⟨⟨h1, h2⟩, h3⟩ := hB
  refine ⟨fun Q hQ => ?_⟩
  have e : ops.toList.toArray = ops := Array.toArray_toList
  have mono : ∀ {cs : List Nat} {F : Fr} {L : List Ent}, Kw P c ⟨m, ds, ro⟩ ops W (fun F L => K ds .normal F L) cs F L → Kw P c ⟨m, ds, ro⟩ ops W (fun F L' => Lx P c ⟨m, ds, ro⟩ ops Q [] F L') cs F L := fun hk => by
    induction hk with
    | nil h => exact .nil (Lx.nil (hQ _ _ _ _ h))
    | cons ho R hs hw hk ih => exact .cons ho R hs hw ih
  have := Cx.anyW (P := P) (c := c) (n := ⟨m, ds, ro⟩) (Q := Q) (F := F) (L := L) (id := id) (l := ops.toList) fs cs (W := W) s0 hs0 (by rw [e]; exact hs1) (Ff := Ff) hT.fol rfl h1 (by rw [e]; exact h2) (by rw [e]; exact h3) (by
    rw [e]
    intro rest L' hW hne
    obtain ⟨F', g1, g2⟩ := wpo_out (h rest L' hW hne)
    subst g2
    exact g1) (by rw [e]; exact mono hk)
  rwa [e] at this
end
end Go.E2
namespace Go.E2
open Go.RowKit
section
variable {P : Program} {T : Tr} {c : Ctx} {n : Cfg} {Q : Exit → Act → World → Prop} {F G : Fr} {L L0 : List Ent} {ops : Array Oper} {pv : Value} {fs : List Nat}
def nrmQ (K : Act → World → Prop) (Q : Exit → Act → World → Prop) : Exit → Act → World → Prop
  | .normal, a, w => K a w
  | e, a, w => Q e a w
theorem letsOut_nrmQ {K : Act → World → Prop} {Q : Exit → Act → World → Prop} (h : LetsOut (nrmQ K Q)) : LetsOut Q := by
  obtain ⟨a, w, h⟩ := h
  exact ⟨a, w, h⟩
theorem wpOpIn_one {ro : Option Nat} {dd i : Nat} {o : Oper} {a : Act} {w : World} {K' : Act → World → Prop} (ho : ops[i]? = some o) (h : wpListIn (wd ro) dd P ops (nrmQ K' Q) [o] a w) : wpOpIn (wd ro) dd P ops Q i K' a w := by
  unfold wpOpIn
  simp only [ho]
  unfold wpListIn at h
  split at h
  · rename_i hw
    rw [if_pos hw]
    unfold Oper.wpIn at *
    refine ⟨h.1, ?_⟩
    have hh := h.2
    generalize (o.semAt (wd ro).round a.eval).run P w = r at *
    cases r with
    | ok x w' =>
      cases x <;> simp only [Oper.uponIn] at hh ⊢ <;>
        first
          | exact hh
          | exact ⟨hh.1, CallsIn.mono hh.2 (fun e w'' he => by cases e <;> first | exact he | exact letsOut_nrmQ he)⟩
          | exact ⟨hh.1, RowsIn.mono hh.2 (fun _ _ he => he)⟩
          | exact ⟨hh.1, RoundIn.mono hh.2 (fun e w'' he => by cases e <;> first | exact he | exact letsOut_nrmQ he)⟩
    | halt x w' => cases x <;> simp only [Oper.uponIn] at hh ⊢ <;> exact hh
  · rename_i hw
    rw [if_neg hw]
    exact h
/-- the operations that turn the heap or panic, in their order -/
inductive KxX (P : Program) (c : Ctx) (n : Cfg) (ops : Array Oper) (L0 : List Ent) (KP : List PanicEntry → List Ent → Prop) (K : Fr → List Ent → Prop) : List Nat → Fr → List Ent → Prop
  | nil {F : Fr} {L : List Ent} (h : K F L) : KxX P c n ops L0 KP K [] F L
  | cons {i : Nat} {is : List Nat} {o : Oper} {F : Fr} {L : List Ent} (ho : ops[i]? = some o) (R : AV → List Ent → Prop)
      (hs : ∀ G Q, (∀ d, d ∈ o.looksAt ops → look F d = look G d) → (∀ r L', R r L' → Yx P c n ops Q [] (putF o.dst r G) L') → (∀ ch L', KP ch L' → Ex c n Q (.panic ch) [] L') → Yx P c n ops Q [o] G L)
      (hl : ∀ r L', R r L' → L0.Sublist L') (hk : ∀ r L', R r L' → KxX P c n ops L0 KP K is (putF o.dst r F) L') : KxX P c n ops L0 KP K (i :: is) F L
theorem wpAnyIn_mixX {ro : Option Nat} {dd : Nat} {m : Nat} {K : Fr → List Ent → Prop} {KP : List PanicEntry → List Ent → Prop} {cs0 : List Nat} {Ff : Fr} (hn : n.ro = ro) (hd : ∀ (i : Nat) (o : Oper), ops[i]? = some o → noDef o.op = true) (hM : Mix ops m cs0)
    (hK : ∀ F L H w a, K F L → St c H w L → Fit H n F a → Q .normal a w) (hKP : ∀ ch L, KP ch L → Ex c n Q (.panic ch) [] L)
    (hfl : ∀ i o, ops[i]? = some o → i ∉ cs0 → ∃ r, YieldsA P c n L0 ops o Ff r ∧ ∀ d, o.dst = some d → look Ff d = some r) :
    ∀ (fuel : Nat) (listed : Array Bool) (cs : List Nat) (F G : Fr) (L : List Ent) (H : Cells) (w : World) (a : Act), listed.size = m → Closed ops listed → unl m listed = fuel →
      (∀ i ∈ cs, listed.getD i true = false) → (∀ i ∈ cs0, i ∈ cs ∨ listed.getD i true = true) → (∀ i ∈ cs, i ∈ cs0) → cs.Nodup → chE ops cs = true → KxX P c n ops L0 KP K cs F L → L0.Sublist L →
      (∀ s, (∀ i o, i ∈ cs0 → ops[i]? = some o → listed.getD i true = true → o.dst ≠ some s) → look F s = look Ff s) →
      (∀ s, (∀ i o, ops[i]? = some o → listed.getD i true = false → i ∉ cs0 → o.dst ≠ some s) → look G s = look F s) →
      St c H w L → Fit H n G a → wpAnyIn (wd ro) dd P .any ops Q fuel listed a w := by
  intro fuel
  induction fuel with
  | zero =>
    intro listed cs F G L H w a hsz hc hu h1 h2 h3 hn hch hk hsub hFf hG hst hF
    have hz := unl_zero hu
    have hlt : ∀ {i : Nat} {o : Oper}, ops[i]? = some o → i < m := fun ho => by rw [← hM.size]; exact (Array.getElem?_eq_some_iff.1 ho).1
    cases hk with
    | cons ho R hs hl hk =>
      have := hz _ (hlt ho)
      rw [h1 _ (by simp)] at this
      cases this
    | nil hk =>
      refine ⟨?_, hK F L H w a hk hst (hF.weak fun s x hx => ?_)⟩
      · rw [List.eq_nil_iff_forall_not_mem]
        intro i hi
        obtain ⟨g1, o, ho, _⟩ := mem_ready.1 hi
        rw [hz i (hlt ho)] at g1
        cases g1
      · rw [hG s fun i o ho hl _ => by rw [hz i (hlt ho)] at hl; cases hl]
        exact hx
  | succ fuel ih =>
    intro listed cs F G L H w a hsz hc hu h1 h2 h3 hn' hch hk hsub hFf hG hst hF
    refine ⟨fun h0 => ?_, fun i hi => ?_⟩
    · exfalso
      obtain ⟨i, hi, hl⟩ := unl_pos (k := m) (listed := listed) (by omega)
      obtain ⟨j, g1, g2, g3⟩ := min_unl i hl
      have hjm : j < ops.size := by have := hM.size; omega
      have hj : j ∈ Region.ready .any ops listed := mem_ready.2 ⟨g2, ops[j], Array.getElem?_eq_getElem hjm, fun e he hb => by
        have hlt := hM.back j _ (Array.getElem?_eq_getElem hjm) e he hb
        have := g3 e.on hlt
        have hel : e.on < listed.size := by omega
        simp [hel] at this ⊢
        exact this⟩
      rw [h0] at hj
      cases hj
    obtain ⟨hun, o, ho, _⟩ := mem_ready.1 hi
    have him : i < m := by rw [← hM.size]; exact (Array.getElem?_eq_some_iff.1 ho).1
    have hil : i < listed.size := by omega
    have hus := unl_set hil hun m
    rw [if_pos him] at hus
    have hag : ∀ d, d ∈ o.looksAt ops → look F d = look G d := fun d hd => (hG d fun i' o' ho' hl' hn' he => (hM.deps i i' o o' d ho ho' he hd).elim (fun h => ready_edge hi h.1 hl') (fun h => hn' h.1)).symm
    by_cases hic : i ∈ cs0
    · have hics : i ∈ cs := (h2 i hic).resolve_right (by rw [hun]; simp)
      cases hk with
      | nil => cases hics
      | @cons j rest o' _ _ ho' R hs hl hk =>
        have e : j = i := by
          rcases List.mem_cons.1 hics with e | hr
          · exact e.symm
          · obtain ⟨x, hx, he⟩ := chE_mem hch hr
            exact (ready_edge hi he (h1 x hx)).elim
        subst e
        rw [ho] at ho'
        cases ho'
        refine wpOpIn_one ho ?_
        have hy := (hs G (nrmQ (wpAnyIn (wd ro) dd P .any ops Q fuel (listed.setIfInBounds j true)) Q) hag (fun r L' hR => Yx.nil ⟨fun H' w' a' hst' hF' => ?_⟩) (fun ch L' hp => ⟨fun H' w' a' hst' hF' => (hKP ch L' hp).out H' w' a' hst' hF'⟩)).out H w a hst hF dd
        · rwa [hn] at hy
        show wpAnyIn (wd ro) dd P .any ops Q fuel (listed.setIfInBounds j true) a' w'
        refine ih _ rest (putF o.dst r F) (putF o.dst r G) L' H' w' a' (by simpa using hsz) (hc.set hi) (by omega) (fun x hx => ?_) (fun x hx => ?_) (fun x hx => h3 x (List.mem_cons_of_mem _ hx)) (List.nodup_cons.1 hn').2 (chE_tl hch) (hk r L' hR) (hl r L' hR) (fun s hs' => ?_) (fun s hs' => ?_) hst' hF'
        · rw [getD_set_ne true (fun e => (List.nodup_cons.1 hn').1 (by rw [e]; exact hx))]
          exact h1 x (List.mem_cons_of_mem _ hx)
        · by_cases e : j = x
          · right
            subst e
            simp [hil]
          · rcases h2 x hx with h | h
            · rcases List.mem_cons.1 h with h | h
              · exact absurd h.symm e
              · exact .inl h
            · right
              rw [getD_set_ne true e]
              exact h
        · rw [put_ne (hs' j o hic ho (by simp [hil]))]
          exact hFf s fun i' o' hi' ho' hl' => hs' i' o' hi' ho' (by
            by_cases e : j = i'
            · subst e; simp [hil]
            · rw [getD_set_ne true e]; exact hl')
        · exact put_eq (hG s fun i' o' ho' hl' hn' => hs' i' o' ho' (by rw [getD_set_ne true (fun e => hn' (by rw [← e]; exact hic))]; exact hl') hn')
    · obtain ⟨r, hy, hd'⟩ := hfl i o ho hic
      have hy' : YieldsA P c n L ops o G r := (hy.sub hsub).congr fun d hd' => by
        rw [← hag d hd']
        exact (hFf d fun i' o' hi' ho' hl' he => (hM.deps i i' o o' d ho ho' he hd').elim (fun h => h.2 hic hi') (fun h => closed_edge hc hl' (by have := (Array.getElem?_eq_some_iff.1 ho').1; have := hM.size; omega) hil h.2 hun)).symm
      have hnext : ∀ H' w' v, H.le H' → St c H' w' L → Rel H' r v → wpAnyIn (wd ro) dd P .any ops Q fuel (listed.setIfInBounds i true) (a.put o.dst v) w' := fun H' w' v hle hs' hr => by
        refine ih _ cs F (putF o.dst r G) L H' w' _ (by simpa using hsz) (hc.set hi) (by omega) (fun x hx => ?_) (fun x hx => ?_) h3 hn' hch hk hsub (fun s hs'' => hFf s fun i' o' hi' ho' hl' => hs'' i' o' hi' ho' (by rw [getD_set_ne true (fun e => hic (by rw [e]; exact hi'))]; exact hl')) (fun s hs'' => ?_) hs' ((hF.mono hle).put hr o.dst)
        · rw [getD_set_ne true (fun e => hic (by rw [e]; exact h3 x hx))]
          exact h1 x hx
        · rcases h2 x hx with h | h
          · exact .inl h
          · right
            rw [getD_set_ne true (fun e => hic (by rw [e]; exact hx))]
            exact h
        · by_cases e : o.dst = some s
          · rw [hFf s fun i' o' hi' ho' _ he => hic (by rw [← hM.dist i' i o' o s ho' ho e he]; exact hi'), hd' s e, e]
            exact look_cons_self _ _ _
          · rw [put_ne e]
            refine hG s fun i' o' ho' hl' hn' => ?_
            by_cases e' : i = i'
            · subst e'
              rw [ho] at ho'
              cases ho'
              exact e
            · exact hs'' i' o' ho' (by rw [getD_set_ne true e']; exact hl') hn'
      unfold wpOpIn
      simp only [ho]
      rcases hy'.cases with ⟨_, hw, hg, hrr⟩ | ⟨hw, hrr⟩
      · rw [if_pos (wanted_fit hF.size hF.rel hw)]
        exact oper_in (hd i o ho) (fun _ _ h => h) (oper_wp_grows hst (hg.out H w a.eval hst (hF.reads _) o.dst o.pos o.after o.guard) fun H' w' v hl hs' hr => hnext H' w' v hl hs' (hrr _ _ hr))
      · rw [if_neg (by rw [wanted_fit hF.size hF.rel hw]; simp)]
        exact ⟨fun _ _ => trivial, hnext H w undef (Cells.le_refl _) hst (hrr _)⟩
theorem Cx.anyX {id : Nat} {l : List Oper} {m : Nat} {KP : List PanicEntry → List Ent → Prop} {K : Fr → List Ent → Prop} (fs cs : List Nat) (L0 : List Ent) (hsub : L0.Sublist L) (hm : P.follows .mixedOrders = true) (hl : l.length = m) (hd : l.all (fun o => noDef o.op) = true)
    (hB : mixB l.toArray m cs = true) (hC : partB l.toArray m fs cs = true) (hK : ∀ F L, K F L → Ex c n Q .normal F L) (hKP : ∀ ch L, KP ch L → Ex c n Q (.panic ch) [] L)
    (h : Ox P c n l.toArray (fun Ff => KxX P c n l.toArray L0 KP K cs Ff L) (fs.map fun i => l.getD i default) F L0) : Cx P c n (.region id l.toArray true) Q F L :=
  ⟨fun H w a hs hF dd => by
    have hsz : l.toArray.size = m := by simpa using hl
    have hM := mix_of hsz hB
    simp only [partB, Bool.and_eq_true, List.all_eq_true, List.mem_range, Bool.or_eq_true, Bool.not_eq_true', List.contains_eq_mem, decide_eq_false_iff_not, decide_eq_true_eq] at hC
    obtain ⟨⟨⟨⟨⟨c1, c2⟩, c3⟩, c4⟩, c6⟩, c5⟩ := hC
    refine wpIn_region_draw fun t => ?_
    simp only [Region.schedule, hm, Bool.true_or, if_true]
    refine wpAnyIn_sound _ t _ a _ ?_
    obtain ⟨Ff, h1, h2⟩ := h.out
    have hget : ∀ i ∈ fs, l.toArray[i]? = some (l.getD i default) := fun i hi => by
      have : i < l.length := by rw [hl]; exact Nat.le_of_ble_eq_true (c4 i hi).1
      simp [this]
    obtain ⟨f1, f2⟩ := h1.full (by
        rw [List.pairwise_map]
        refine (List.Pairwise.and_mem.1 (ascB_pw c1)).imp ?_
        rintro i j ⟨hi, hj, hij⟩ d hd
        refine ⟨fun hm => ?_, fun he => ?_⟩
        · have := ((hM.deps i j _ _ d (hget i hi) (hget j hj) hd hm).resolve_right fun h => (c4 j hj).2 h.1).1
          obtain ⟨o, ho, e, e1, e2, e3⟩ := edgeB_spec this
          have := hM.back i o ho e e1 e2
          omega
        · have := hM.dist i j _ _ d (hget i hi) (hget j hj) hd he
          omega) (fun o ho d hd hm => by
        obtain ⟨i, hi, rfl⟩ := List.mem_map.1 ho
        have := ((hM.deps i i _ _ d (hget i hi) (hget i hi) hd hm).resolve_right fun h => (c4 i hi).2 h.1).1
        obtain ⟨o, ho, e, e1, e2, e3⟩ := edgeB_spec this
        have := hM.back i o ho e e1 e2
        omega)
    have hfl : ∀ i o, l.toArray[i]? = some o → i ∉ cs → i ∈ fs ∧ o = l.getD i default := fun i o ho hn => by
      have him : i < m := by rw [← hsz]; exact (Array.getElem?_eq_some_iff.1 ho).1
      have hi := (c5 i him).resolve_left hn
      refine ⟨hi, ?_⟩
      rw [hget i hi] at ho
      exact (Option.some.inj ho).symm
    have hun : ∀ k, k ≤ m → unl k (Array.replicate m false) = k := by
      intro k
      induction k with
      | zero => intro _; rfl
      | succ k ih =>
        intro hk
        have h3 := ih (by omega)
        simp only [unl, h3]
        rw [if_pos (by simp [show k < m by omega])]
    rw [hsz]
    have := wpAnyIn_mixX (P := P) (Q := Q) (ro := n.ro) (dd := dd) (K := K) (KP := KP) (Ff := Ff) rfl (noDef_get hd) hM (fun F L H w a k hst hF => (hK F L k).out H w a hst hF) hKP
      (fun i o ho hn => by
        obtain ⟨hi, rfl⟩ := hfl i o ho hn
        exact f1 _ (List.mem_map.2 ⟨i, hi, rfl⟩)) m (Array.replicate m false) cs Ff F L H _ a (by simp) (fun k o ho hk => by simp [Array.getElem?_replicate] at hk; split at hk <;> simp_all) (hun m (Nat.le_refl _))
      (fun i hi => by
        have him : i < m := Nat.le_of_ble_eq_true (c6 i hi)
        simp [him]) (fun i hi => .inl hi) (fun i hi => hi) ((ascB_pw c2).imp fun h => Nat.ne_of_lt h) c3 h2 hsub (fun s _ => rfl) (fun s hs' => by
          refine (f2 s fun o ho he => ?_).symm
          obtain ⟨i, hi, rfl⟩ := List.mem_map.1 ho
          have him : i < m := Nat.le_of_ble_eq_true (c4 i hi).1
          exact hs' i _ (hget i hi) (by simp [him]) (c4 i hi).2 he) hs.drew hF
    exact this⟩
theorem CK.anyX [hT : TabOK P T] {m : Nat} {ro : Option Nat} {K : KT} {ds : List Deferred} {id : Nat} {ops : Array Oper} (fs cs : List Nat) (L0 : List Ent) (hsub : L0.Sublist L) (hB : anyKB ops fs cs = true)
    (h : wpo P T c ⟨m, ds, ro⟩ ops L0 (fun F => KxX P c ⟨m, ds, ro⟩ ops L0 (fun ch L => K ds (.panic ch) [] L) (fun F L => K ds .normal F L) cs F L) (fs.map fun i => ops.toList.getD i default) F) : CK P T c m ro (.region id ops true) K ds F L := by
  simp only [anyKB, Bool.and_eq_true] at hB
  obtain ⟨⟨h1, h2⟩, h3⟩ := hB
  refine ⟨fun Q hQ => ?_⟩
  obtain ⟨F', h6, h7⟩ := wpo_out h
  have e : ops.toList.toArray = ops := Array.toArray_toList
  have := Cx.anyX (P := P) (c := c) (n := ⟨m, ds, ro⟩) (Q := Q) (F := F) (L := L) (id := id) (l := ops.toList) (KP := fun ch L => K ds (.panic ch) [] L) (K := fun F L => K ds .normal F L) fs cs L0 hsub hT.fol rfl h1 (by rw [e]; exact h2) (by rw [e]; exact h3) (fun F L hk => hQ _ _ _ _ hk) (fun ch L hk => hQ _ _ _ _ hk) (by
    rw [e]
    exact ⟨F', h6, h7⟩)
  rwa [e] at this
variable {d : Option Tmp} {ty : TypeId} {pos : String} {aft : Array Edge} {K : Fr → List Ent → Prop} {KP : List PanicEntry → List Ent → Prop} {i : Nat} {is : List Nat}
theorem Ex.nilF {e : Exit} (h : Ex c n Q e [] L) : Ex c n Q e F L := Ex.weak [] (fun s y hl => by simp [look] at hl) (List.Sublist.refl _) h
theorem KxX.eff {o : Op} {g : Option (Nat × Bool)} {R : AV → List Ent → Prop} (ho : ops[i]? = some ⟨d, o, ty, pos, aft, g⟩) (hd : noDef o = true) (h : Eff P c n ops ⟨d, o, ty, pos, aft, g⟩ F L R) (hl : ∀ r L', R r L' → L0.Sublist L') (k : ∀ r L', R r L' → putK d r F fun F => KxX P c n ops L0 KP K is F L') : KxX P c n ops L0 KP K (i :: is) F L :=
  .cons ho R (fun G Q hag hn _ => Yx.ofLx 1 (by simp [hd]) fun K' hK => h.out G K' hag fun r L' hr => Lx.nil (hK.norm _ _ (hn r L' hr))) hl fun r L' hr => putK_out (k r L' hr)
theorem KxX.yld {o : Oper} {r : AV} (ho : ops[i]? = some o) (hd : noDef o.op = true) (hsub : L0.Sublist L) (h : YieldsA P c n L ops o F r) (k : KxX P c n ops L0 KP K is (putF o.dst r F) L) : KxX P c n ops L0 KP K (i :: is) F L :=
  .cons ho (fun r' L' => r' = r ∧ L' = L) (fun _ _ hag hn _ => Yx.ofLx 1 (by simp [hd]) fun _ hK => Lx.yld (h.congr hag) (Lx.nil (hK.norm _ _ (hn r L ⟨rfl, rfl⟩)))) (fun _ _ e => by rw [e.2]; exact hsub) (fun _ _ e => by obtain ⟨rfl, rfl⟩ := e; exact k)
theorem KxX.stp [TabOK P T] {o : Op} {g : Option (Nat × Bool)} (ho : ops[i]? = some ⟨d, o, ty, pos, aft, g⟩) (hp : (isPure o && noDef o) = true) (hsub : L0.Sublist L) (h : E2.stp P T c n ops o ty g F L fun r => putK d r F fun F => KxX P c n ops L0 KP K is F L) : KxX P c n ops L0 KP K (i :: is) F L := by
  obtain ⟨r, h1, h2⟩ := stp_out (o := ⟨d, o, ty, pos, aft, g⟩) h
  exact KxX.yld ho (Bool.and_eq_true_iff.1 hp).2 hsub h1 (putK_out h2)
theorem KxX.ask [TabOK P T] {o : Op} (ho : ops[i]? = some ⟨d, o, ty, pos, aft, none⟩) (hd : noDef o = true) (hsub : L0.Sublist L) (h : Ask P c n true o ty F L fun r => putK d r F fun F => KxX P c n ops L0 KP K is F L) : KxX P c n ops L0 KP K (i :: is) F L := by
  obtain ⟨r, h1, h2⟩ := h.out
  exact KxX.yld ho hd hsub (YieldsA.run ⟨rfl, h1 rfl⟩) (putK_out h2)
theorem KxX.call {f : FuncId} {x : Operand} {xs : List Operand} {as1 as2 : List AV} {ts : Array TypeId} {pv : Value} {Φ : AV → List Ent → Prop} {Ψ : List Ent → Prop} (hf : EntersT P f) (hc : FnX P c f as2 L pv Φ Ψ) (ho : ops[i]? = some ⟨d, .call ⟨.value x, xs.toArray, ts⟩, ty, pos, aft, none⟩) (hx : oget n F x = some (.v (.func (.func f) #[] #[]))) (hv : ogets n F xs = some as1) (hsb : SbL L as1 as2)
    (hl : ∀ a L', Φ a L' → L0.Sublist L') (k : ∀ a L', Φ a L' → putK d a F fun F => KxX P c n ops L0 KP K is F L') (kp : ∀ L', Ψ L' → KP (chain1 pv) L') : KxX P c n ops L0 KP K (i :: is) F L :=
  .cons ho Φ (fun _ _ hag hn hp => Yx.callX hf (by rw [← look_op hag (by simp [Op.operands, Call.operands])]; exact hx) (by rw [← ogets_look fun y hy => look_op hag (by simp [Op.operands, Call.operands, hy])]; exact hv) hsb hc (fun a L' h => hn a L' h) fun L' h => Ex.nilF (hp _ _ (kp L' h))) hl fun r L' hr => putK_out (k r L' hr)
theorem KxX.callL {f : FuncId} {x : Operand} {xs : List Operand} {as1 as2 : List AV} {ts : Array TypeId} {Φ : AV → List Ent → Prop} (hf : EntersT P f) (hc : FnL P c f as2 L Φ) (ho : ops[i]? = some ⟨d, .call ⟨.value x, xs.toArray, ts⟩, ty, pos, aft, none⟩) (hx : oget n F x = some (.v (.func (.func f) #[] #[]))) (hv : ogets n F xs = some as1) (hsb : SbL L as1 as2)
    (hl : ∀ a L', Φ a L' → L0.Sublist L') (k : ∀ a L', Φ a L' → putK d a F fun F => KxX P c n ops L0 KP K is F L') : KxX P c n ops L0 KP K (i :: is) F L :=
  .cons ho Φ (fun _ _ hag hn _ => Yx.ofLx 1 rfl fun _ hK => Lx.callL hf rfl (by rw [← look_op hag (by simp [Op.operands, Call.operands])]; exact hx) (by rw [← ogets_look fun y hy => look_op hag (by simp [Op.operands, Call.operands, hy])]; exact hv) hsb hc fun a L' h => Lx.nil (hK.norm _ _ (hn a L' h))) hl fun r L' hr => putK_out (k r L' hr)
/-! a guarded call over the local heap that leaves it as it is -/
end
section
variable {P : Program} {T : Tr} {c : Ctx} {n : Cfg} {ops : Array Oper} {F : Fr} {L : List Ent} {H : Cells} {w : World}
variable {d : Option Tmp} {ty : TypeId} {pos : String} {aft : Array Edge} {R : AV → List Ent → Prop}
variable {α β : Type} {ek : α → Value} {ev : β → AV} {S : Value → Prop} {kt vt : TypeId} {l : List (α × β)} {g : Nat}
end
end Go.E2
