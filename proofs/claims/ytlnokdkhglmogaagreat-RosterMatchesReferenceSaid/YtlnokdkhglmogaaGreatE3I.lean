/-
  The engine, second make, part I: calls by contracts over the caller's own local heap; slices.SortFunc over a row.
  Conditions: none beyond the premises of each rule.
-/
import Derived.Test.YtlnokdkhglmogaaGreatE3H
import Derived.Shelf.SlSortCmp.NoneTotal
namespace Go.E2
open Go.RowKit Go.Sort Go.Proofs Go.Shelf
section
variable {P : Program} {c : Ctx} {n : Cfg} {Q : Exit → Act → World → Prop} {F : Fr} {L : List Ent} {ops : Array Oper} {ty : TypeId}
variable {d : Option Tmp} {pos : String} {aft : Array Edge} {gd : Option (Nat × Bool)} {rest : List Oper} {H : Cells} {w : World}
theorem Lx.callL {f : FuncId} {x : Operand} {xs : List Operand} {as1 as2 : List AV} {ts : Array TypeId} {Φ : AV → List Ent → Prop} (hf : EntersT P f) (hg : wantB ops n F gd = some true) (hx : oget n F x = some (.v (.func (.func f) #[] #[]))) (hv : ogets n F xs = some as1) (hsb : SbL L as1 as2) (hc : FnL P c f as2 L Φ)
    (k : ∀ a L', Φ a L' → Lx P c n ops Q rest (putF d a F) L') : Lx P c n ops Q (⟨d, .call ⟨.value x, xs.toArray, ts⟩, ty, pos, aft, gd⟩ :: rest) F L :=
  ⟨fun H w a hs hF => by
    refine wpList_step fun K hK => ?_
    rw [if_pos (wanted_fit (o := ⟨d, _, ty, pos, aft, gd⟩) hF.size hF.rel hg)]
    unfold Oper.wp
    have hr := hF.reads (Op.call ⟨.value x, xs.toArray, ts⟩).operands
    rw [run_call hf (hr.v (by simp [Op.operands, Call.operands]) hx)]
    simp only [Oper.upon]
    have h := hc.out H w (xs.map a.eval) hs (hsb.rel hs (hr.list (fun y hy => by simp [Op.operands, Call.operands, hy]) hv))
    rw [show (#[] ++ (xs.map a.eval).toArray ++ #[] : Array Value) = (xs.map a.eval).toArray by simp]
    refine Calls.mono h ?_
    rintro e w' ⟨v, b, H', L', rfl, hp, hrel, hle, hst⟩
    exact hK _ _ ((k b L' hp).out H' w' _ hst ((hF.mono hle).put hrel d))⟩
/-- what a row's slice is -/
theorem row_one {base : Nat} {v : Value} {t : TypeId} {size m : Nat} {z : Bool} {xs : List AV} (h : (Ent.row v t size m z xs).In H base w) : (AV.v v).one = true := by
  obtain ⟨us, ⟨_, h⟩, _⟩ := h
  rcases h with ⟨rfl, _⟩ | ⟨_, _, _, rfl, _⟩ <;> rfl
theorem Lx.rows {l : List Oper} (k : (∀ (j : Nat) (v : Value) (t : TypeId) (s m : Nat) (z : Bool) (xs : List AV), L[j]? = some (Ent.row v t s m z xs) → (AV.v v).one = true) → Lx P c n ops Q l F L) : Lx P c n ops Q l F L :=
  ⟨fun H w a hs hF => (k fun _ _ _ _ _ _ _ hj => row_one (hs.holds _ (List.mem_of_getElem? hj))).out H w a hs hF⟩
theorem FnL.mono {f : FuncId} {args : List AV} {Φ Ψ : AV → List Ent → Prop} (h : FnL P c f args L Φ) (hm : ∀ a E, Φ a E → Ψ a E) : FnL P c f args L Ψ :=
  ⟨fun H w vs hi hr => Calls.mono (h.out H w vs hi hr) fun _ _ ⟨v, a, H', E, he, hp, hs⟩ => ⟨v, a, H', E, he, hm _ _ hp, hs⟩⟩
end
/-! worlds that have grown -/
theorem grow_of_below {W w : World} (h : Go.RowKit.Below W.heap.size W w) (hd : W.drawn ≤ w.drawn) : ∃ q os, w = grow (W.drewN q) os := by
  refine ⟨w.drawn - W.drawn, w.heap.extract W.heap.size w.heap.size, ?_⟩
  have hh : w.heap = W.heap ++ w.heap.extract W.heap.size w.heap.size := by
    apply Array.ext_getElem?
    intro i
    rw [Array.getElem?_append]
    by_cases hi : i < W.heap.size
    · rw [if_pos hi, h.block i hi]
    · rw [if_neg hi, Array.getElem?_extract]
      have := h.size
      by_cases h2 : i < w.heap.size
      · rw [if_pos (by omega)]
        congr 1; omega
      · rw [if_neg (by omega), Array.getElem?_eq_none (by omega)]
  obtain ⟨h1, h2, h3, _, _⟩ := h
  cases w; cases W
  simp only [grow, World.drewN] at *
  simp only [World.mk.injEq]
  exact ⟨hh, h2, by omega, h1, h3⟩
section
variable {α : Type} {enc : α → List Value} {k : Nat}
theorem flatMap_get (hk : ∀ x, (enc x).length = k) (k0 : 0 < k) : ∀ (l : List α) (t : Nat), (l.flatMap enc)[t]? = (l[t / k]?).bind fun x => (enc x)[t % k]?
  | [], t => by simp
  | x :: l, t => by
    rw [List.flatMap_cons, List.getElem?_append, hk]
    by_cases h : t < k
    · rw [if_pos h, Nat.div_eq_of_lt h, Nat.mod_eq_of_lt h]; rfl
    · rw [if_neg h, flatMap_get hk k0 l (t - k)]
      have e1 : t / k = (t - k) / k + 1 := by rw [Nat.div_eq t k, if_pos ⟨k0, by omega⟩]
      have e2 : t % k = (t - k) % k := Nat.mod_eq_sub_mod (by omega)
      rw [e1, e2]; rfl
theorem flat_av {av : α → AV} (hav : ∀ x, av x = .agg ((enc x).map AV.v)) : ∀ l : List α, (l.map av).flatMap AV.cells = (l.flatMap enc).map AV.v
  | [] => rfl
  | x :: l => by
    rw [List.map_cons, List.flatMap_cons, List.flatMap_cons, List.map_append, flat_av hav l, hav]; rfl
variable [Inhabited α]
theorem flat_eq (hk : ∀ x, (enc x).length = k) (k0 : 0 < k) (d : Array α) : (flatK enc k d).toList = d.toList.flatMap enc := by
  apply List.ext_getElem?
  intro t
  rw [flatMap_get hk k0]
  by_cases h : t < d.size * k
  · have ht : t / k < d.size := (Nat.div_lt_iff_lt_mul k0).2 h
    have hm : t % k < k := Nat.mod_lt _ k0
    have e := get_flatK enc k d t h
    rw [getElem!_pos _ t (by rw [size_flatK]; exact h)] at e
    rw [Array.getElem?_toList, Array.getElem?_toList, Array.getElem?_eq_getElem (by rw [size_flatK]; exact h), e, Array.getElem?_eq_getElem ht, Option.bind_some, getElem!_pos d _ ht, getElem!_pos _ _ (by rw [hk]; exact hm), List.getElem?_eq_getElem (by rw [hk]; exact hm)]
  · have ht : d.size ≤ t / k := (Nat.le_div_iff_mul_le k0).2 (by omega)
    rw [Array.getElem?_toList, Array.getElem?_toList, Array.getElem?_eq_none (by rw [size_flatK]; omega), Array.getElem?_eq_none ht]; rfl
theorem take_put (F cur : Array Value) (h : F.size ≤ cur.size) : (putCells id 0 F cur).toList.take F.size = F.toList := by
  apply List.ext_getElem?
  intro t
  rw [List.getElem?_take, Array.getElem?_toList, Array.getElem?_toList]
  by_cases ht : t < F.size
  · rw [if_pos ht]
    simp only [putCells, Array.getElem?_mapIdx]
    rw [Array.getElem?_eq_getElem (show t < cur.size by omega), Option.map_some, if_pos ⟨Nat.zero_le _, by omega⟩, Nat.sub_zero, getElem!_pos F t ht, Array.getElem?_eq_getElem ht]; rfl
  · rw [if_neg ht, Array.getElem?_eq_none (by omega)]
theorem size_put (F cur : Array Value) : (putCells id 0 F cur).size = cur.size := by simp [putCells]
theorem sortW_other (w : World) (blk m : Nat) (d : Array α) (os : Array Obj) {j : Nat} (hj : j < w.heap.size) (hne : j ≠ blk) : (sortWorldK enc k w blk 0 m d os).heap[j]? = w.heap[j]? := by
  unfold sortWorldK
  rw [heap_grow_old _ _ (by simpa [putRowK, putRow, mapBlock, ahead] using hj)]
  simp only [putRowK, putRow, mapBlock, Array.getElem?_modify]
  rw [if_neg (fun e => hne e.symm)]; rfl
theorem sortW_own (w : World) (blk m : Nat) (d : Array α) (os : Array Obj) {cur : Array Value} {t : TypeId} {fr : Nat × Nat} (hb : w.heap[blk]? = some (.cells cur t fr)) : (sortWorldK enc k w blk 0 m d os).heap[blk]? = some (.cells (putCells id 0 (flatK enc k d) cur) t fr) := by
  have hlt := blk_lt hb
  unfold sortWorldK
  rw [heap_grow_old _ _ (by simpa [putRowK, putRow, mapBlock, ahead] using hlt)]
  simp [putRowK, putRow, mapBlock, Array.getElem?_modify, hb, onCells]
theorem sortW_size (w : World) (blk m : Nat) (d : Array α) (os : Array Obj) : w.heap.size ≤ (sortWorldK enc k w blk 0 m d os).heap.size := by
  simp [sortWorldK, putRowK, putRow, mapBlock, grow]
theorem RelL.inv_v {H : Cells} : ∀ {us vs : List Value}, RelL H (us.map AV.v) vs → vs = us
  | [], _, h => by cases h; rfl
  | u :: us, _, h => by
    cases h with
    | cons h1 h2 => rw [h1.inv, h2.inv_v]
theorem RelL.of_v (H : Cells) : ∀ us : List Value, RelL H (us.map AV.v) us
  | [] => .nil
  | _ :: us => .cons (.v _) (RelL.of_v H us)
variable {P : Program} {ρ : Ren} {c : Ctx} {L : List Ent}
/-- slices.SortFunc over a row of the caller's -/
theorem sort_of (lay : SlLaysF0.n6 P ρ) (k0 : 0 < k) (aE : ∀ w, (isAgg (ρ.t 24)).run P w = .ok true w) (zE : ∀ w, (Go.sizeOf (ρ.t 24)).run P w = .ok k w) (hk : ∀ x, (enc x).length = k) (h1 : ∀ x, ∀ v ∈ enc x, v.oneCell' = true)
    (cf : α → α → Int) (hO : SWO (ltOf cf)) {g : FuncId} {caps : List AV} (hent : EntersT P g) {av : α → AV} (hav : ∀ x, av x = .agg ((enc x).map AV.v)) (hcmp : ∀ x y, FnA P g ([av x, av y] ++ caps) (I (cf x y)))
    {v : Value} {t : TypeId} {dl : List α} (i : Nat) (hi : L[i]? = some (.row v t k 0 false (dl.map av))) (hlen : dl.length < 4611686018427387904) :
    FnL P c (ρ.f 6) [.v v, .fn (.func g) caps] L fun r L' => r = .tup [] ∧ ∃ dl' : List α, dl'.Perm dl ∧ dl'.Pairwise (fun a b => ltOf cf b a = false) ∧ L' = L.set i (.row v t k 0 false (dl'.map av)) := by
  refine ⟨fun H w vs hs hr => ?_⟩
  cases hr with
  | cons r1 r2 =>
  cases r2 with
  | cons r2 r3 =>
  cases r3
  have e1 := r1.inv
  obtain ⟨cb, rfl, rcb⟩ := r2.inv_fn
  subst e1
  obtain ⟨us, hrow, hrel, hcl, hm, hno, hyes⟩ := hs.holds _ (List.mem_of_getElem? hi)
  have hrel' := hrel
  rw [flat_av hav] at hrel
  have hus := hrel.inv_v
  obtain ⟨hul, hr2⟩ := hrow
  rcases hr2 with ⟨rfl, hn⟩ | ⟨blk, cap, cur, rfl, hb, hh, hc1, hc2, hc3, hc4⟩
  · have hd : dl = [] := by simpa using hn
    subst hd
    refine Calls.mono (AnyF.slices_SortFunc_none lay none 0 (.func (.func g) #[] cb.toArray) w) ?_
    rintro e w' ⟨rfl, rfl⟩
    refine ⟨_, .tup [], H, L, rfl, ⟨rfl, [], .refl _, .nil, ?_⟩, .tup .nil, Cells.le_refl _, hs⟩
    obtain ⟨hlt, he⟩ := List.getElem?_eq_some_iff.1 hi
    apply List.ext_getElem?
    intro j
    rw [List.getElem?_set]
    by_cases hj : i = j
    · subst hj; rw [if_pos rfl, if_pos hlt]; exact hi
    · rw [if_neg hj]
  · rw [List.length_map] at hc1 hc4 hul ⊢
    have hlt := blk_lt hh
    have hfree : ∀ o, H blk o = none := fun o => hno blk rfl o (by omega)
    have hHW : ∀ (m : Nat) (d : Array α) (os : Array Obj), HIn H (sortWorldK enc k w blk 0 m d os) := fun m d os => hin_heap hs.hin fun b o u hu => by
      have hne : b ≠ blk := fun e => by subst e; rw [hfree] at hu; cases hu
      exact sortW_other w blk m d os (hs.hin.lt hu) hne
    have hH : HoldsK enc k w blk 0 dl.toArray := by
      intro j hj
      rw [size_flatK] at hj
      have hj' : j < dl.length * k := by simpa using hj
      have hjc : j < cur.size := by rw [hc3]; exact Nat.lt_of_lt_of_le hj' (Nat.mul_le_mul_right k hc1)
      have e := flat_eq hk k0 dl.toArray
      refine ⟨?_, ?_⟩
      · simp only [World.cell?, Nat.zero_add, hh, Option.isSome_none]
        have q : (flatK enc k dl.toArray).toList[j]? = cur.toList[j]? := by
          rw [e]
          show (dl.flatMap enc)[j]? = _
          rw [← hus, ← hc4, List.getElem?_take, if_pos hj']
        rw [Array.getElem?_toList, Array.getElem?_toList] at q
        simp only [Bool.false_eq_true, if_false]
        rw [← q, Array.getElem?_eq_getElem (by rw [size_flatK]; exact hj), getElem!_pos _ j (by rw [size_flatK]; exact hj)]; rfl
      · simp [World.frozen?, hh]
    have hcl' : CmpLays P g cb.toArray enc k cf blk 0 dl.toArray.size w := fun m os dk _ x y => by
      have h := (hcmp x y).out H _ (.agg (enc x).toArray :: .agg (enc y).toArray :: cb) (hHW m dk os) (.cons (by rw [hav]; exact .agg (RelL.of_v _ _)) (.cons (by rw [hav]; exact .agg (RelL.of_v _ _)) rcb))
      rw [show (.agg (enc x).toArray :: .agg (enc y).toArray :: cb : List Value).toArray = #[.agg (enc x).toArray, .agg (enc y).toArray] ++ cb.toArray by simp] at h
      refine Calls.mono h ?_
      rintro e w' ⟨v, a, H', E, rfl, ⟨rfl, rfl⟩, hv, hst⟩
      exact ⟨by rw [hv.inv], grow_of_below hst.below hst.dr⟩
    have := AnyQ.slices_SortFunc lay k aE zE enc hk h1 cf hO g cb.toArray blk 0 cap dl.toArray w hent hcl' hH hlt (by simpa using hlen)
    refine Calls.mono this ?_
    rintro e w' ⟨rfl, d', q, os, hp, hso, rfl⟩
    have hsz : d'.size = dl.length := by rw [hp.1]; simp
    have hFs : (flatK enc k d').size ≤ cur.size := by rw [size_flatK, hsz, hc3]; exact Nat.mul_le_mul_right k hc1
    refine ⟨_, .tup [], H, L.set i (.row (.slice (some ⟨blk, 0, none⟩) dl.length cap) t k 0 false (d'.toList.map av)), rfl, ⟨rfl, d'.toList, ?_, ?_, rfl⟩, .tup .nil, Cells.le_refl _, ?_⟩
    · have := hp.2.2
      simp only [List.size_toArray] at this
      rw [← hsz, Array.extract_size] at this
      rw [hsz] at this
      simpa using this
    · rw [List.pairwise_iff_getElem]
      intro a b ha hb hab
      have ha' : a < d'.size := by simpa using ha
      have hb' : b < d'.size := by simpa using hb
      have := hso a b (Nat.zero_le _) hab (by simpa [hsz] using hb')
      rw [getElem!_pos d' a ha', getElem!_pos d' b hb'] at this
      simpa using this
    · refine hs.turn hi (hHW q d' os) ?_ ?_ (.inl rfl) ?_
      · refine ⟨d'.toList.flatMap enc, ⟨?_, .inr ⟨blk, cap, putCells id 0 (flatK enc k d') cur, by simp [hsz], hb, sortW_own w blk q d' os hh, by simpa [hsz] using hc1, hc2, by rw [size_put]; exact hc3, ?_⟩⟩, ?_, ?_, Nat.zero_le _, fun g hg o _ => ?_, fun h => by cases h⟩
        · rw [← flat_eq hk k0]; simp
        · have e := take_put (flatK enc k d') cur hFs
          rw [size_flatK] at e
          rw [← flat_eq hk k0, ← e]
          simp
        · rw [flat_av hav]; exact RelL.of_v _ _
        · intro x hx
          obtain ⟨y, _, rfl⟩ := List.mem_map.1 hx
          rw [hav]; simp [AV.cells, hk]
        · simp only [Value.ownBlock, Option.some.injEq] at hg
          subst hg; exact hfree o
      · exact ⟨rfl, rfl, rfl, sortW_size w blk q d' os, fun j hj hne => sortW_other w blk q d' os hj (fun e => hne (by rw [e]; rfl))⟩
      · show w.drawn ≤ w.drawn + q
        omega
end
end Go.E2
