/-
  The engine, texts KB.
  Conditions: none beyond the premises of each rule.
-/
import Derived.Test.YtjfnkmlnbaianaaGreatE5F
namespace Go.E2
open Go.RowKit Go.ChangeShapes Go.WideShapes Go.ChangeAt
mutual
def AV.wt : AV → Nat
 | .sl _ xs => AV.wtL xs + 1
 | .agg xs => AV.wtL xs
 | _ => 1
def AV.wtL : List AV → Nat
 | [] => 0
 | x :: l => AV.wt x + AV.wtL l
end
theorem wtL_app : ∀ (a b : List AV), AV.wtL (a ++ b) = AV.wtL a + AV.wtL b
 | [], b => by simp [AV.wtL]
 | x :: a, b => by rw [List.cons_append, AV.wtL, AV.wtL, wtL_app a b]; omega
theorem wt_cells : ∀ x : AV, AV.wtL x.cells = AV.wt x
 | .agg cs => by simp [AV.cells, AV.wt]
 | .v _ => by simp [AV.cells, AV.wt, AV.wtL]
 | .tup _ => by simp [AV.cells, AV.wt, AV.wtL]
 | .sl _ _ => by simp [AV.cells, AV.wt, AV.wtL]
 | .fp _ _ => by simp [AV.cells, AV.wt, AV.wtL]
 | .fn _ _ => by simp [AV.cells, AV.wt, AV.wtL]
 | .opt _ _ => by simp [AV.cells, AV.wt, AV.wtL]
structure Blk {K : Type} (bulk : DataW K → Nat) : Prop where
 one : ∀ d, 1 ≤ bulk d
 agg : ∀ l, (l.map bulk).sum ≤ bulk (.agg l)
 sl : ∀ l r, (l.map bulk).sum + 1 ≤ bulk (.slice l r)
def sumU (g : Nat → Nat) : Nat → Nat
 | 0 => 0
 | n + 1 => g 0 + sumU (fun i => g (i + 1)) n
theorem sumU_list {α : Type} (f : α → Nat) : ∀ l : List α, sumU (fun i => (l[i]?.map f).getD 0) l.length = (l.map f).sum
 | [] => rfl
 | x :: l => by
  have := sumU_list f l
  simp only [List.length_cons, sumU, List.getElem?_cons_zero, Option.map_some, Option.getD_some, List.getElem?_cons_succ, List.map_cons, List.sum_cons, this]
theorem relE_mkB {H : Cells} {k b : Nat} {E : AV → Prop} : ∀ (n o : Nat) (g : Nat → Nat), (∀ i, i < n → ∃ x : AV, x.cells.length = k ∧ (E x ∧ AV.wt x ≤ g i) ∧ RelC H b (o + i * k) x.cells) → ∃ xs : List AV, xs.length = n ∧ RelE H k b o xs ∧ (∀ x ∈ xs, E x) ∧ AV.wtL xs ≤ sumU g n
 | 0, _, _, _ => ⟨[], rfl, .nil, by simp, by simp [AV.wtL, sumU]⟩
 | n + 1, o, g, h => by
  obtain ⟨x, h1, h2, h3⟩ := h 0 (by omega)
  obtain ⟨xs, g1, g2, g3, g4⟩ := relE_mkB n (o + k) (fun i => g (i + 1)) (fun i hi => by
   obtain ⟨x, h1, h2, h3⟩ := h (i + 1) (by omega)
   exact ⟨x, h1, h2, by rw [Nat.add_assoc, show k + i * k = (i + 1) * k by rw [Nat.succ_mul, Nat.add_comm]]; exact h3⟩)
  refine ⟨x :: xs, by simp [g1], .cons h1 (by simpa using h3) g2, ?_, ?_⟩
  ·intro y hy
   rcases List.mem_cons.1 hy with rfl | hy
   ·exact h2.1
   ·exact g3 y hy
  ·have := h2.2
   rw [AV.wtL, sumU]
   omega
theorem elem_ofB {d : Dt} {cs : List AV} (h : Has d cs) : ∃ x : AV, x.cells = cs ∧ isA x = d.isSt ∧ AV.wt x = AV.wtL cs := by
 obtain ⟨x, h1, h2⟩ := elem_of h
 exact ⟨x, h1, h2, by rw [← h1, wt_cells]⟩
section
variable {K : Type} {enc : TypeId × Value → K} {P : Program} {w : World} {base : Nat} {spare : Nat → Bool} {held : Bool} {bulk : DataW K → Nat}
mutual
theorem has_ofB (hB : Blk bulk) : ∀ {t : TypeId} {d : Dt}, DtOf P t d → ∀ {fuel : Nat} {cs : List Value} {x : DataW K × List MemPlace}, DataW.trod enc P w base spare held fuel t cs = some x → ∃ as, Has d as ∧ RelL (allC w) as cs ∧ AV.wtL as ≤ bulk x.1
 | _, _, .int h, _, _, x, hx => by
  obtain ⟨n, rfl, _, hw⟩ := DataW.trod_int h hx
  exact ⟨_, .int hw, .cons (.v _) .nil, by have := hB.one x.1; simpa [AV.wtL, AV.wt] using this⟩
 | _, _, .bool h, fuel, cs, x, hx => by
  have : ∃ b, cs = [.bool b] := by
   cases fuel with
   | zero => simp [DataW.trod] at hx
   | succ n =>
    unfold DataW.trod at hx
    rw [h] at hx
    split at hx <;> simp_all
  obtain ⟨b, rfl⟩ := this
  exact ⟨_, .bool, .cons (.v _) .nil, by have := hB.one x.1; simpa [AV.wtL, AV.wt] using this⟩
 | _, _, .str h, _, _, x, hx => by
  obtain ⟨s, rfl, _, hw⟩ := DataW.trod_string h hx
  exact ⟨_, .str hw, .cons (.v _) .nil, by have := hB.one x.1; simpa [AV.wtL, AV.wt] using this⟩
 | _, _, .st h hf hn, fuel, cs, x, hx => by
  obtain ⟨xs, n, _, hxe, hl, hlen, hall⟩ := DataW.trod_struct h hx
  obtain ⟨as, h1, h2, h3⟩ := hasF_ofB hB hf (cs := cs) (fuel := n) (ys := xs) (by simpa using hlen) (fun i f hi => hall i f (by simpa using hi)) (by omega)
  refine ⟨as, .st h1, by simpa using h2, Nat.le_trans h3 ?_⟩
  rw [hxe]
  have := hB.agg (xs.map (·.1))
  rw [List.map_map] at this
  exact this
 | _, _, .arr (e := e) (d := d) (n := n) (k := k) h hk hn he, fuel, cs, x, hx => by
  obtain ⟨xs, f, _, hxe, hl, hlen, hall⟩ := DataW.trod_array h hx
  have key : ∀ m, m ≤ n → ∃ as, HasF (List.replicate m d) as ∧ RelL (allC w) as (cs.drop ((n - m) * k)) ∧ AV.wtL as ≤ ((xs.drop (n - m)).map fun y => bulk y.1).sum := by
   intro m
   induction m with
   | zero => intro _; exact ⟨[], .nil, by rw [Nat.sub_zero, List.drop_eq_nil_of_le (by rw [hl, hn]; exact Nat.le_refl _)]; exact .nil, by simp [AV.wtL]⟩
   | succ m ih =>
    intro hm
    obtain ⟨bs, h3, h4, h5⟩ := ih (by omega)
    have hy := hall (n - (m + 1)) (by omega)
    rw [hk, List.getElem?_eq_getElem (by omega)] at hy
    obtain ⟨as, h1, h2, h6⟩ := has_ofB hB he hy
    refine ⟨as ++ bs, by rw [List.replicate_succ]; exact .cons h1 h3, ?_, ?_⟩
    ·have := h2.append h4
     rw [show (n - m) * k = (n - (m + 1)) * k + k by rw [show n - m = n - (m + 1) + 1 by omega, Nat.succ_mul], ← List.drop_drop, List.take_append_drop] at this
     exact this
    ·rw [wtL_app, List.drop_eq_getElem_cons (by omega : n - (m + 1) < xs.length), List.map_cons, List.sum_cons, show n - (m + 1) + 1 = n - m by omega]
     omega
  obtain ⟨as, h1, h2, h3⟩ := key n (Nat.le_refl _)
  rw [Nat.sub_self, Nat.zero_mul, List.drop_zero] at h2
  rw [Nat.sub_self, List.drop_zero] at h3
  refine ⟨as, .arr h1, h2, Nat.le_trans h3 ?_⟩
  rw [hxe]
  have := hB.agg (xs.map (·.1))
  rw [List.map_map] at this
  exact this
 | _, _, .sl (e := e) (d := d) (k := k) h hk hp he, fuel, cs, x, hx => by
  have hp' : 0 < k := by simpa [Nat.blt_eq] using hp
  rcases DataW.trod_slice h hx with ⟨rfl, _⟩ | ⟨a, len, cap, elems, rest, n, _, rfl, hxe, _, hl, hm, hlen, hel, _, _⟩
  ·exact ⟨[.sl k []], .sl (by simp) (by simp) (by simp), .cons (.sl0 (by simp)) .nil, by have := hB.one x.1; simpa [AV.wtL, AV.wt] using this⟩
  ·by_cases h0 : len = 0
   ·subst h0
    exact ⟨[.sl k []], .sl (by simp) (by simp) (by simp), .cons (.sl0 hm) .nil, by have := hB.one x.1; simpa [AV.wtL, AV.wt] using this⟩
   ·have el : ∀ i, i < len → ∃ cs', w.cells? base (a.add (i * k)) k = some cs' ∧ ∃ x, DataW.trod enc P w base spare held n e cs' = some x ∧ (elems.map fun y => y.1)[i]? = some x.1 := by
     intro i hi
     have := hel i hi
     rw [List.getElem?_eq_getElem (by omega), hk] at this
     obtain ⟨cs', h1, h2⟩ := Option.bind_eq_some_iff.1 this
     exact ⟨cs', h1, _, h2, by rw [List.getElem?_map, List.getElem?_eq_getElem (by omega)]; rfl⟩
    have hsp : a.spot = none := by
     obtain ⟨cs', h1, _⟩ := el 0 (by omega)
     obtain ⟨_, h2, h3⟩ := World.cells?_some h1
     have h4 := h3 0 hp'
     rw [List.getElem?_eq_getElem (by omega)] at h4
     have := spot_none h4
     simp only [Addr.add] at this
     split at this <;> simp_all
    obtain ⟨b, o, sp⟩ := a
    simp only at hsp
    subst hsp
    obtain ⟨xs, g1, g2, g3, g4⟩ := relE_mkB (H := allC w) (k := k) (b := b) (E := fun x => Has d x.cells ∧ isA x = d.isSt) len o (fun i => ((elems.map fun y => y.1)[i]?.map bulk).getD 0) (fun i hi => by
     obtain ⟨cs', h1, x, h2, h7⟩ := el i hi
     obtain ⟨as, h3, h4, h8⟩ := has_ofB hB he h2
     obtain ⟨y, hy1, hy2, hy3⟩ := elem_ofB h3
     obtain ⟨_, h5, h6⟩ := World.cells?_some h1
     refine ⟨y, ?_, ⟨⟨by rw [hy1]; exact h3, hy2⟩, by rw [hy3, h7]; exact h8⟩, ?_⟩
     ·rw [hy1, h4.len, h5]
     ·rw [hy1]
      refine RelC.of h4 (fun j u hu => ?_)
      have hj : j < k := by have := (List.getElem?_eq_some_iff.1 hu).1; omega
      have := h6 j hj
      rw [hu] at this
      rw [add_none, add_none] at this
      exact this)
    refine ⟨[.sl k xs], .sl (fun x hx => (g3 x hx).1) (fun x hx => (g3 x hx).2) (by omega), .cons ?_ .nil, ?_⟩
    ·have := Rel.sl (cap := cap) g2 (by omega) hm
     rw [g1] at this
     exact this
    ·have h9 := sumU_list bulk (elems.map fun y => y.1)
     rw [List.length_map, hlen] at h9
     have := hB.sl (elems.map fun y => y.1) (rest.map fun y => y.1)
     rw [hxe]
     simp only [AV.wtL, AV.wt]
     omega
theorem hasF_ofB (hB : Blk bulk) : ∀ {o n : Nat} {fs : List Field} {ds : List Dt}, DtsOf P o fs ds n → ∀ {fuel : Nat} {cs : List Value} {ys : List (DataW K × List MemPlace)}, ys.length = fs.length → (∀ (i : Nat) (f : Field), fs[i]? = some f → DataW.trod enc P w base spare held fuel f.type ((cs.drop f.offset).take (P.cellsOf f.type)) = ys[i]?) → cs.length = n →
  ∃ as, HasF ds as ∧ RelL (allC w) as (cs.drop o) ∧ AV.wtL as ≤ (ys.map fun y => bulk y.1).sum
 | _, _, _, _, .nil, _, cs, ys, _, _, hl => ⟨[], .nil, by rw [List.drop_eq_nil_of_le (by omega)]; exact .nil, by simp [AV.wtL]⟩
 | _, _, _, _, .cons (o := o) (k := k) ho hk hd ht, fuel, cs, [], hy, hall, hl => by simp at hy
 | _, _, _, _, .cons (o := o) (k := k) ho hk hd ht, fuel, cs, y :: ys, hy, hall, hl => by
  have hx := hall 0 _ rfl
  obtain ⟨as, h1, h2, h5⟩ := has_ofB hB hd (x := y) hx
  obtain ⟨bs, h3, h4, h6⟩ := hasF_ofB hB ht (cs := cs) (ys := ys) (by simpa using hy) (fun i f hf => hall (i + 1) f (by simpa using hf)) hl
  rw [ho, hk] at h2
  refine ⟨as ++ bs, .cons h1 h3, ?_, ?_⟩
  ·have := h2.append h4
   rw [show (cs.drop o).take k ++ cs.drop (o + k) = cs.drop o by rw [← List.drop_drop, List.take_append_drop]] at this
   exact this
  ·rw [wtL_app, List.map_cons, List.sum_cons]
   omega
end
theorem args_ofB (hB : Blk bulk) {r : Reach} {b0 : Nat} : ∀ {ts : List TypeId} {dl : List Dt}, DtL P ts dl → ∀ {vs : List Value} {ds : List (DataW K)} {ps : List MemPlace}, DataW.TrodAll enc P w base spare held ts vs ds ps →
  (∀ (j : Nat) (t : TypeId) (v : Value), ts[j]? = some t → vs[j]? = some v → Value.okWide P w r b0 t v) → ∃ as, ArgH dl as ∧ RelL (allC w) as vs ∧ ds.length = dl.length ∧ AV.wtL as ≤ (ds.map bulk).sum
 | _, _, .nil, vs, ds, _, h, _ => by
  cases vs <;> cases ds <;> simp [DataW.TrodAll] at h
  exact ⟨[], trivial, .nil, rfl, by simp [AV.wtL]⟩
 | _, _, .cons (d := d) h _ _ rest, vs, ds, ps, ht, hv => by
  obtain ⟨v, vs', d', ds', p, q, rfl, rfl, rfl, h1, h2⟩ := trodAll_cons ht
  obtain ⟨as, g1, g2, g3, g4⟩ := args_ofB hB rest h2 (fun j t v h1 h2 => hv (j + 1) t v (by simpa using h1) (by simpa using h2))
  obtain ⟨n, hn⟩ := h1
  obtain ⟨cs, c1, c2, c3⟩ := has_ofB hB h hn
  have hv0 := hv 0 _ v rfl rfl
  simp only at c3
  cases hs : d.isSt with
  | true =>
   cases h with
   | st h hf hn =>
    simp only [Value.okWide, h] at hv0
    obtain ⟨arr, rfl, _, _⟩ := hv0
    have := Rel.agg c2
    simp only [Value.cells, Array.toArray_toList] at this
    exact ⟨.agg cs :: as, ⟨c1, by rw [hs]; rfl, g1⟩, .cons this g2, by simp [g3], by simp only [AV.wtL, AV.wt, List.map_cons, List.sum_cons]; omega⟩
   | arr h hk hn he =>
    simp only [Value.okWide, h] at hv0
    obtain ⟨arr, rfl, _, _⟩ := hv0
    have := Rel.agg c2
    simp only [Value.cells, Array.toArray_toList] at this
    exact ⟨.agg cs :: as, ⟨c1, by rw [hs]; rfl, g1⟩, .cons this g2, by simp [g3], by simp only [AV.wtL, AV.wt, List.map_cons, List.sum_cons]; omega⟩
   | _ => cases hs
  | false =>
   rw [not_agg h hs hv0] at c2
   obtain ⟨a, rfl, ha⟩ := has_one c1 hs
   simp only [AV.wtL] at c3
   cases c2 with
   | cons c2 _ => exact ⟨a :: as, ⟨by rw [isA_cells ha]; exact c1, by rw [hs, ha], g1⟩, .cons c2 g2, by simp [g3], by simp only [AV.wtL, List.map_cons, List.sum_cons]; omega⟩
theorem law_postB {f : FuncId} {fn : Func} {s : ChangeSpec} {apart fresh handsOn : Bool} {dl : List Dt} {tb : TypeId} {most : Nat} (hB : Blk bulk) (hl : laidOutB P = true) (hts : DtL P fn.params.toList dl) (hres : fn.resultTypes = #[tb]) (htb : P.underlying tb = some .bool)
  (hvars : s.vars = []) (hfn : ∀ l : List (DataW K), l.length = dl.length → s.fn K l = { results := [.lit (.bool true)], args := l }) (hc : ∀ as, ArgH dl as → AV.wtL as ≤ most → FnA P f as (B true))
  {W : World} {b0 : Nat} {args : Array Value} {ds gs : List (DataW K)} {before : List MemPlace}
  (hval : ∀ (j : Nat) t v, fn.params[j]? = some t → args[j]? = some v → Value.okWide P W .any b0 t v)
  (hW : DataW.Whole enc P fn.params.toList s.vars apart W args.toList ds gs before) (hk : ((ds ++ gs).map bulk).sum ≤ most) :
  Calls P f args W fun e W' => ∃ v, e = .returned v ∧ s.post enc P fn apart fresh handsOn false W args v W' := by
 have hW' := hW
 obtain ⟨p, q, hA, hV, rfl, hfz, hnd⟩ := hW
 rw [hvars] at hV
 obtain ⟨rfl, rfl⟩ := trodVars_none hV
 obtain ⟨as, h1, h2, h3, h4⟩ := args_ofB hB (r := .any) (b0 := b0) hts hA (fun j t v ht hv => hval j t v (by simpa using ht) (by simpa using hv))
 rw [List.append_nil] at hk
 have hlt := hA.lt
 refine (Array.toArray_toList (xs := args) ▸ (hc as h1 (by omega)).out (allC W) W args.toList (allC_in W) h2).mono fun e W' => ?_
 rintro ⟨v, a, H', E, rfl, ⟨rfl, rfl⟩, hrel, hst⟩
 have hv := hrel.inv
 subst hv
 have e : s.fn K (ds ++ []) = { results := [.lit (.bool true)], args := ds } := by rw [List.append_nil]; exact hfn ds h3
 refine ⟨_, rfl, ds, [], p ++ [], [], p, [], hW', ?_, ?_, ?_, hst.below.frame _, fun h => by cases h⟩
 ·rw [e, hres]
  exact trodAll_mk1 ⟨1, by simp [DataW.trod, Value.cells, htb]⟩
 ·rw [e]
  exact stays_of hl hst.below hts hA hlt (fun x hx => by simpa using hlt x hx)
 ·rw [e, hvars]
  rfl
end
end Go.E2
