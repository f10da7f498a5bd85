/-
  The engine, texts K.
  Conditions: none beyond the premises of each rule.
-/
import Derived.Test.YtnekeokgognegaaE5B
import Derived.ProofKit
import Derived.OpenShut
import Derived.Carry
import Derived.WideKeyArgs
import Derived.Deep.Slices
namespace Go.E2
open Go.RowKit Go.ChangeShapes Go.WideShapes Go.ChangeAt

/-- kinds of data -/
inductive Dt where
  | int (k : IntKind)
  | bool
  | str
  | st (ds : List Dt)
  | arr (n : Nat) (e : Dt)
  | sl (k : Nat) (e : Dt)
def Dt.isSt : Dt → Bool
  | .st _ => true
  | .arr _ _ => true
  | _ => false
def isA : AV → Bool
  | .agg _ => true
  | _ => false
mutual
inductive DtOf (P : Program) : TypeId → Dt → Prop
  | int {t : TypeId} {k : IntKind} (h : P.underlying t = some (.int k)) : DtOf P t (.int k)
  | bool {t : TypeId} (h : P.underlying t = some .bool) : DtOf P t .bool
  | str {t : TypeId} (h : P.underlying t = some .string) : DtOf P t .str
  | st {t : TypeId} {fs : Array Field} {ds : List Dt} {n : Nat} (h : P.underlying t = some (.struct fs)) (hf : DtsOf P 0 fs.toList ds n) (hn : P.cellsOf t = n) : DtOf P t (.st ds)
  | arr {t e : TypeId} {d : Dt} {n k : Nat} (h : P.underlying t = some (.array n e)) (hk : P.cellsOf e = k) (hn : P.cellsOf t = n * k) (he : DtOf P e d) : DtOf P t (.arr n d)
  | sl {t e : TypeId} {d : Dt} {k : Nat} (h : P.underlying t = some (.slice e)) (hk : P.cellsOf e = k) (hp : Nat.blt 0 k = true) (he : DtOf P e d) : DtOf P t (.sl k d)
inductive DtsOf (P : Program) : Nat → List Field → List Dt → Nat → Prop
  | nil {o : Nat} : DtsOf P o [] [] o
  | cons {o k n : Nat} {f : Field} {fs : List Field} {d : Dt} {ds : List Dt} (ho : f.offset = o) (hk : P.cellsOf f.type = k) (hd : DtOf P f.type d) (ht : DtsOf P (o + k) fs ds n) : DtsOf P o (f :: fs) (d :: ds) n
end
mutual
inductive Has : Dt → List AV → Prop
  | int {k : IntKind} {n : Int} (h : (Lit.int k n).wf = true) : Has (.int k) [.v (.int k n)]
  | bool {b : Bool} : Has .bool [.v (.bool b)]
  | str {s : ByteArray} (h : s.size ≤ maxLen) : Has .str [.v (.string s)]
  | st {ds : List Dt} {cs : List AV} (h : HasF ds cs) : Has (.st ds) cs
  | arr {n : Nat} {e : Dt} {cs : List AV} (h : HasF (List.replicate n e) cs) : Has (.arr n e) cs
  | sl {k : Nat} {e : Dt} {xs : List AV} (h : ∀ x ∈ xs, Has e x.cells) (hg : ∀ x ∈ xs, isA x = e.isSt) (hl : xs.length ≤ maxLen) : Has (.sl k e) [.sl k xs]
inductive HasF : List Dt → List AV → Prop
  | nil : HasF [] []
  | cons {d : Dt} {ds : List Dt} {cs cs' : List AV} (h : Has d cs) (t : HasF ds cs') : HasF (d :: ds) (cs ++ cs')
end
/-- all cells of a world -/
def allC (w : World) : Cells := fun b o => w.cell? ⟨b, o, none⟩
theorem allC_in (w : World) : HIn (allC w) w := fun _ _ _ h => h
theorem relE_mk {H : Cells} {k b : Nat} {E : AV → Prop} : ∀ (n o : Nat), (∀ i, i < n → ∃ x : AV, x.cells.length = k ∧ E x ∧ RelC H b (o + i * k) x.cells) → ∃ xs : List AV, xs.length = n ∧ RelE H k b o xs ∧ ∀ x ∈ xs, E x
  | 0, _, _ => ⟨[], rfl, .nil, by simp⟩
  | n + 1, o, h => by
    obtain ⟨x, h1, h2, h3⟩ := h 0 (by omega)
    obtain ⟨xs, g1, g2, g3⟩ := relE_mk n (o + k) (fun i hi => by
      obtain ⟨x, h1, h2, h3⟩ := h (i + 1) (by omega)
      exact ⟨x, h1, h2, by rw [Nat.add_assoc, show k + i * k = (i + 1) * k by rw [Nat.succ_mul, Nat.add_comm]]; exact h3⟩)
    exact ⟨x :: xs, by simp [g1], .cons h1 (by simpa using h3) g2, by
      intro y hy
      rcases List.mem_cons.1 hy with rfl | hy
      · exact h2
      · exact g3 y hy⟩
theorem spot_none {w : World} {a : Addr} {u : Value} (h : w.cell? a = some u) : a.spot = none := by
  unfold World.cell? at h
  split at h
  · split at h
    · cases h
    · rename_i hs
      cases hh : a.spot with
      | none => rfl
      | some x => rw [hh] at hs; simp at hs
  · cases h
section
variable {K : Type} {enc : TypeId × Value → K} {P : Program} {w : World} {base : Nat} {spare : Nat → Bool} {held : Bool}
theorem has_one {d : Dt} {cs : List AV} (h : Has d cs) (hs : d.isSt = false) : ∃ a, cs = [a] ∧ isA a = false := by
  cases h with
  | int h => exact ⟨_, rfl, rfl⟩
  | bool => exact ⟨_, rfl, rfl⟩
  | str h => exact ⟨_, rfl, rfl⟩
  | st h => cases hs
  | arr h => cases hs
  | sl h hg hl => exact ⟨_, rfl, rfl⟩
theorem isA_cells {a : AV} (h : isA a = false) : a.cells = [a] := by
  cases a <;> first | rfl | cases h
theorem elem_of {d : Dt} {cs : List AV} (h : Has d cs) : ∃ x : AV, x.cells = cs ∧ isA x = d.isSt := by
  cases hs : d.isSt with
  | true => exact ⟨.agg cs, rfl, rfl⟩
  | false =>
    obtain ⟨a, rfl, ha⟩ := has_one h hs
    exact ⟨a, isA_cells ha, ha⟩
mutual
theorem has_of : ∀ {t : TypeId} {d : Dt}, DtOf P t d → ∀ {fuel : Nat} {cs : List Value} {x : DataW K × List MemPlace}, DataW.trod enc P w base spare held fuel t cs = some x → ∃ as, Has d as ∧ RelL (allC w) as cs
  | _, _, .int h, _, _, _, hx => by
    obtain ⟨n, rfl, _, hw⟩ := DataW.trod_int h hx
    exact ⟨_, .int hw, .cons (.v _) .nil⟩
  | _, _, .bool h, fuel, cs, x, hx => by
    have : ∃ b, cs = [.bool b] := by
      cases fuel with
      | zero => simp [DataW.trod] at hx
      | succ n =>
        unfold DataW.trod at hx
        rw [h] at hx
        split at hx <;> simp_all
    obtain ⟨b, rfl⟩ := this
    exact ⟨_, .bool, .cons (.v _) .nil⟩
  | _, _, .str h, _, _, _, hx => by
    obtain ⟨s, rfl, _, hw⟩ := DataW.trod_string h hx
    exact ⟨_, .str hw, .cons (.v _) .nil⟩
  | _, _, .st h hf hn, fuel, cs, x, hx => by
    obtain ⟨xs, n, _, _, hl, hlen, hall⟩ := DataW.trod_struct h hx
    obtain ⟨as, h1, h2⟩ := hasF_of hf (cs := cs) (fuel := n) (fun f hm => by
      obtain ⟨i, hi⟩ := List.getElem?_of_mem hm
      have hlt := (List.getElem?_eq_some_iff.1 hi).1
      have := hall i f (by simpa using hi)
      have hxs : i < xs.length := by rw [hlen]; simpa using hlt
      exact ⟨_, this.trans (List.getElem?_eq_getElem hxs)⟩) (by omega)
    exact ⟨as, .st h1, by simpa using h2⟩
  | _, _, .arr (e := e) (d := d) (n := n) (k := k) h hk hn he, fuel, cs, x, hx => by
    have hh : ∃ f, cs.length = n * k ∧ ∀ i, i < n → ∃ y, DataW.trod enc P w base spare held f e ((cs.drop (i * k)).take k) = some y := by
      obtain ⟨xs, f, _, _, hl, hlen, hall⟩ := DataW.trod_array h hx
      refine ⟨f, by rw [hl, hn], fun i hi => ?_⟩
      have := hall i hi
      rw [hk, List.getElem?_eq_getElem (by omega)] at this
      exact ⟨_, this⟩
    obtain ⟨f, hl, hall⟩ := hh
    have key : ∀ m, m ≤ n → ∃ as, HasF (List.replicate m d) as ∧ RelL (allC w) as (cs.drop ((n - m) * k)) := by
      intro m
      induction m with
      | zero => intro _; exact ⟨[], .nil, by rw [Nat.sub_zero, List.drop_eq_nil_of_le (by omega)]; exact .nil⟩
      | succ m ih =>
        intro hm
        obtain ⟨bs, h3, h4⟩ := ih (by omega)
        obtain ⟨y, hy⟩ := hall (n - (m + 1)) (by omega)
        obtain ⟨as, h1, h2⟩ := has_of he hy
        refine ⟨as ++ bs, by rw [List.replicate_succ]; exact .cons h1 h3, ?_⟩
        have := h2.append h4
        rw [show (n - m) * k = (n - (m + 1)) * k + k by rw [show n - m = n - (m + 1) + 1 by omega, Nat.succ_mul], ← List.drop_drop, List.take_append_drop] at this
        exact this
    obtain ⟨as, h1, h2⟩ := key n (Nat.le_refl _)
    rw [Nat.sub_self, Nat.zero_mul, List.drop_zero] at h2
    exact ⟨as, .arr h1, h2⟩
  | _, _, .sl (e := e) (d := d) (k := k) h hk hp he, fuel, cs, x, hx => by
    have hp' : 0 < k := by simpa [Nat.blt_eq] using hp
    rcases DataW.trod_slice h hx with ⟨rfl, _⟩ | ⟨a, len, cap, elems, rest, n, _, rfl, _, _, hl, hm, hlen, hel, _, _⟩
    · exact ⟨[.sl k []], .sl (by simp) (by simp) (by simp), .cons (.sl0 (by simp)) .nil⟩
    · by_cases h0 : len = 0
      · subst h0
        exact ⟨[.sl k []], .sl (by simp) (by simp) (by simp), .cons (.sl0 hm) .nil⟩
      · have el : ∀ i, i < len → ∃ cs', w.cells? base (a.add (i * k)) k = some cs' ∧ ∃ x, DataW.trod enc P w base spare held n e cs' = some x := by
          intro i hi
          have := hel i hi
          rw [List.getElem?_eq_getElem (by omega), hk] at this
          obtain ⟨cs', h1, h2⟩ := Option.bind_eq_some_iff.1 this
          exact ⟨cs', h1, _, h2⟩
        have hsp : a.spot = none := by
          obtain ⟨cs', h1, _⟩ := el 0 (by omega)
          obtain ⟨_, h2, h3⟩ := World.cells?_some h1
          have h4 := h3 0 hp'
          rw [List.getElem?_eq_getElem (by omega)] at h4
          have := spot_none h4
          simp only [Addr.add] at this
          split at this <;> simp_all
        obtain ⟨b, o, sp⟩ := a
        simp only at hsp
        subst hsp
        obtain ⟨xs, g1, g2, g3⟩ := relE_mk (H := allC w) (k := k) (b := b) (E := fun x => Has d x.cells ∧ isA x = d.isSt) len o (fun i hi => by
          obtain ⟨cs', h1, x, h2⟩ := el i hi
          obtain ⟨as, h3, h4⟩ := has_of he h2
          obtain ⟨y, hy1, hy2⟩ := elem_of h3
          obtain ⟨_, h5, h6⟩ := World.cells?_some h1
          refine ⟨y, ?_, ⟨by rw [hy1]; exact h3, hy2⟩, ?_⟩
          · rw [hy1, h4.len, h5]
          · rw [hy1]
            refine RelC.of h4 (fun j u hu => ?_)
            have hj : j < k := by have := (List.getElem?_eq_some_iff.1 hu).1; omega
            have := h6 j hj
            rw [hu] at this
            rw [add_none, add_none] at this
            exact this)
        refine ⟨[.sl k xs], .sl (fun x hx => (g3 x hx).1) (fun x hx => (g3 x hx).2) (by omega), .cons ?_ .nil⟩
        have := Rel.sl (cap := cap) g2 (by omega) hm
        rw [g1] at this
        exact this
theorem hasF_of : ∀ {o n : Nat} {fs : List Field} {ds : List Dt}, DtsOf P o fs ds n → ∀ {fuel : Nat} {cs : List Value}, (∀ f ∈ fs, ∃ x, DataW.trod enc P w base spare held fuel f.type ((cs.drop f.offset).take (P.cellsOf f.type)) = some x) → cs.length = n → ∃ as, HasF ds as ∧ RelL (allC w) as (cs.drop o)
  | _, _, _, _, .nil, _, cs, _, hl => ⟨[], .nil, by rw [List.drop_eq_nil_of_le (by omega)]; exact .nil⟩
  | _, _, _, _, .cons (o := o) (k := k) ho hk hd ht, fuel, cs, hall, hl => by
    obtain ⟨x, hx⟩ := hall _ (List.mem_cons_self ..)
    obtain ⟨as, h1, h2⟩ := has_of hd hx
    obtain ⟨bs, h3, h4⟩ := hasF_of ht (cs := cs) (fun f hf => hall f (by simp [hf])) hl
    rw [ho, hk] at h2
    refine ⟨as ++ bs, .cons h1 h3, ?_⟩
    have := h2.append h4
    rw [show (cs.drop o).take k ++ cs.drop (o + k) = cs.drop o by rw [← List.drop_drop, List.take_append_drop]] at this
    exact this
end
/-! arguments -/
inductive DtL (P : Program) : List TypeId → List Dt → Prop
  | nil : DtL P [] []
  | cons {t : TypeId} {d : Dt} {ts : List TypeId} {ds : List Dt} (h : DtOf P t d) (hr : P.readableRec t = true) (hs : t < P.types.size) (r : DtL P ts ds) : DtL P (t :: ts) (d :: ds)
def ArgH : List Dt → List AV → Prop
  | [], [] => True
  | d :: ds, a :: as => Has d a.cells ∧ isA a = d.isSt ∧ ArgH ds as
  | _, _ => False
theorem not_agg {r : Reach} {t : TypeId} {d : Dt} {v : Value} (h : DtOf P t d) (hs : d.isSt = false) (hv : Value.okWide P w r base t v) : v.cells = #[v] := by
  cases v with
  | agg arr =>
    exfalso
    cases h with
    | int h => simp [Value.okWide, Cell.okWide, Cell.ok, h] at hv
    | bool h => simp [Value.okWide, Cell.okWide, Cell.ok, h] at hv
    | str h => simp [Value.okWide, Cell.okWide, Cell.ok, h] at hv
    | st h hf hn => cases hs
    | arr h hk hn he => cases hs
    | sl h hk hp he => simp [Value.okWide, Cell.okWide, Cell.ok, h] at hv
  | _ => rfl
theorem args_of {r : Reach} {b0 : Nat} : ∀ {ts : List TypeId} {dl : List Dt}, DtL P ts dl → ∀ {vs : List Value} {ds : List (DataW K)} {ps : List MemPlace}, DataW.TrodAll enc P w base spare held ts vs ds ps →
    (∀ (j : Nat) (t : TypeId) (v : Value), ts[j]? = some t → vs[j]? = some v → Value.okWide P w r b0 t v) → ∃ as, ArgH dl as ∧ RelL (allC w) as vs ∧ ds.length = dl.length
  | _, _, .nil, vs, ds, _, h, _ => by
    cases vs <;> cases ds <;> simp [DataW.TrodAll] at h
    exact ⟨[], trivial, .nil, rfl⟩
  | _, _, .cons (d := d) h _ _ rest, vs, ds, ps, ht, hv => by
    obtain ⟨v, vs', d', ds', p, q, rfl, rfl, rfl, h1, h2⟩ := trodAll_cons ht
    obtain ⟨as, g1, g2, g3⟩ := args_of rest h2 (fun j t v h1 h2 => hv (j + 1) t v (by simpa using h1) (by simpa using h2))
    obtain ⟨n, hn⟩ := h1
    obtain ⟨cs, c1, c2⟩ := has_of h hn
    have hv0 := hv 0 _ v rfl rfl
    cases hs : d.isSt with
    | true =>
      cases h with
      | st h hf hn =>
        simp only [Value.okWide, h] at hv0
        obtain ⟨arr, rfl, _, _⟩ := hv0
        have := Rel.agg c2
        simp only [Value.cells, Array.toArray_toList] at this
        exact ⟨.agg cs :: as, ⟨c1, by rw [hs]; rfl, g1⟩, .cons this g2, by simp [g3]⟩
      | arr h hk hn he =>
        simp only [Value.okWide, h] at hv0
        obtain ⟨arr, rfl, _, _⟩ := hv0
        have := Rel.agg c2
        simp only [Value.cells, Array.toArray_toList] at this
        exact ⟨.agg cs :: as, ⟨c1, by rw [hs]; rfl, g1⟩, .cons this g2, by simp [g3]⟩
      | _ => cases hs
    | false =>
      rw [not_agg h hs hv0] at c2
      obtain ⟨a, rfl, ha⟩ := has_one c1 hs
      cases c2 with
      | cons c2 _ => exact ⟨a :: as, ⟨by rw [isA_cells ha]; exact c1, by rw [hs, ha], g1⟩, .cons c2 g2, by simp [g3]⟩
theorem stays_of {W' : World} {sp' : Nat → Bool} (hl : laidOutB P = true) (hb : Below w.heap.size w W') : ∀ {ts : List TypeId} {dl : List Dt}, DtL P ts dl → ∀ {vs : List Value} {ds : List (DataW K)} {ps : List MemPlace}, DataW.TrodAll enc P w base (fun _ => true) true ts vs ds ps →
    (∀ p ∈ ps, p.block < w.heap.size) → (∀ p ∈ ps, sp' p.block = true) → DataW.TrodAll enc P W' base sp' true ts vs ds ps
  | _, _, .nil, vs, ds, _, h, _, _ => by
    cases vs <;> cases ds <;> simp [DataW.TrodAll] at h
    subst h
    exact trodAll_mk0
  | _, _, .cons _ hr hs rest, vs, ds, ps, ht, h1, h2 => by
    obtain ⟨v, vs', d', ds', p, q, rfl, rfl, rfl, g1, g2⟩ := trodAll_cons ht
    exact trodAll_cons_mk (WideElems.Trod_stays hl hr hs g1 (fun x hx => hb.same (h1 x (by simp [hx]))) (fun x hx => h2 x (by simp [hx]))) (stays_of hl hb rest g2 (fun x hx => h1 x (by simp [hx])) (fun x hx => h2 x (by simp [hx])))
theorem law_post {f : FuncId} {fn : Func} {s : ChangeSpec} {apart fresh handsOn : Bool} {dl : List Dt} {tb : TypeId} (hl : laidOutB P = true) (hts : DtL P fn.params.toList dl) (hres : fn.resultTypes = #[tb]) (htb : P.underlying tb = some .bool)
    (hvars : s.vars = []) (hfn : ∀ l : List (DataW K), l.length = dl.length → s.fn K l = { results := [.lit (.bool true)], args := l }) (hc : ∀ as, ArgH dl as → FnA P f as (B true))
    {W : World} {b0 : Nat} {args : Array Value} {ds gs : List (DataW K)} {before : List MemPlace}
    (hval : ∀ (j : Nat) t v, fn.params[j]? = some t → args[j]? = some v → Value.okWide P W .any b0 t v)
    (hW : DataW.Whole enc P fn.params.toList s.vars apart W args.toList ds gs before) :
    Calls P f args W fun e W' => ∃ v, e = .returned v ∧ s.post enc P fn apart fresh handsOn false W args v W' := by
  have hW' := hW
  obtain ⟨p, q, hA, hV, rfl, hfz, hnd⟩ := hW
  rw [hvars] at hV
  obtain ⟨rfl, rfl⟩ := trodVars_none hV
  obtain ⟨as, h1, h2, h3⟩ := args_of (r := .any) (b0 := b0) hts hA (fun j t v ht hv => hval j t v (by simpa using ht) (by simpa using hv))
  have hlt := hA.lt
  refine (Array.toArray_toList (xs := args) ▸ (hc as h1).out (allC W) W args.toList (allC_in W) h2).mono fun e W' => ?_
  rintro ⟨v, a, H', E, rfl, ⟨rfl, rfl⟩, hrel, hst⟩
  have hv := hrel.inv
  subst hv
  have e : s.fn K (ds ++ []) = { results := [.lit (.bool true)], args := ds } := by rw [List.append_nil]; exact hfn ds h3
  refine ⟨_, rfl, ds, [], p ++ [], [], p, [], hW', ?_, ?_, ?_, hst.below.frame _, fun h => by cases h⟩
  · rw [e, hres]
    exact trodAll_mk1 ⟨1, by simp [DataW.trod, Value.cells, htb]⟩
  · rw [e]
    exact stays_of hl hst.below hts hA hlt (fun x hx => by simpa using hlt x hx)
  · rw [e, hvars]
    rfl
end
end Go.E2
