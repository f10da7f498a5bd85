/-
  The engine, part W: maps of the call's own.
  Conditions: none beyond the premises of each rule.
-/
import Derived.Test.YtlnokdkhglmogaaGreatE3Z
import Derived.Maps.RangeRun
import Derived.WideKeyRuns
namespace Go.E2
open Go.RowKit
/-! keys -/
open Classical in
noncomputable def fk (a : Value) : List MapEntry → Nat → Option (Nat × Value)
  | [], _ => none
  | e :: es, i => if a = e.key then some (i, e.val) else fk a es (i + 1)
structure KeyT (P : Program) (kt : TypeId) (S : Value → Prop) : Prop where
  chk : ∀ e a, S a → ∀ w, (Instr.checkKey e 10000 kt a).run P w = .ok () w
  fnd : ∀ a, S a → ∀ es : List MapEntry, (∀ e ∈ es, S e.key) → ∀ w, (Instr.findKey kt a es).run P w = .ok (fk a es 0) w
  bits : ∀ a, S a → ∀ w, (Instr.keyThatStays a a).run P w = .ok a w
def IsStr (a : Value) : Prop := ∃ s, a = .string s
def IsI64 (a : Value) : Prop := ∃ n, a = .int .i64 n
theorem ba_beq (a b : ByteArray) : (a == b) = decide (a = b) := by rw [beq_toListBytes, str_eq]
theorem findNow_str (s : ByteArray) : ∀ (es : List MapEntry) (i : Nat), (∀ e ∈ es, IsStr e.key) → Instr.findNow .string (.string s) es i = some (fk (.string s) es i)
  | [], _, _ => rfl
  | e :: es, i, h => by
    obtain ⟨t, ht⟩ := h e (by simp)
    have ih := findNow_str s es (i + 1) fun e he => h e (by simp [he])
    simp only [Instr.findNow, fk, ht, Instr.sameNow, ba_beq]
    by_cases hst : s = t
    · subst hst; simp [ht]
    · have : ¬ (Value.string s = Value.string t) := fun e => hst (by injection e)
      simp [hst, this, ih, ht]
theorem findNow_int (a : Int) : ∀ (es : List MapEntry) (i : Nat), (∀ e ∈ es, IsI64 e.key) → Instr.findNow (.int .i64) (.int .i64 a) es i = some (fk (.int .i64 a) es i)
  | [], _, _ => rfl
  | e :: es, i, h => by
    obtain ⟨t, ht⟩ := h e (by simp)
    have ih := findNow_int a es (i + 1) fun e he => h e (by simp [he])
    simp only [Instr.findNow, fk, ht, Instr.sameNow]
    by_cases hst : a = t
    · subst hst; simp [ht]
    · have : ¬ (Value.int .i64 a = Value.int .i64 t) := fun e => hst (by injection e)
      have h2 : (a == t) = false := by simpa using hst
      simp [this, ih, h2, ht]
theorem key_str {P : Program} {kt : TypeId} (h : P.underlying kt = some .string) : KeyT P kt IsStr := by
  refine ⟨fun e a ha w => ?_, fun a ha es he w => ?_, fun a ha w => ?_⟩
  · obtain ⟨s, rfl⟩ := ha
    have key : ∀ n, (Instr.checkKey e (n + 1) kt (.string s)).run P w = .ok () w := fun n => by simp [Instr.checkKey, run_und h]
    exact key 9999
  · obtain ⟨s, rfl⟩ := ha
    simp [Instr.findKey, run_und h, findNow_str s es 0 he]
  · obtain ⟨s, rfl⟩ := ha
    simp [Instr.keyThatStays, Instr.sameBits, ba_beq]
theorem key_int {P : Program} {kt : TypeId} (h : P.underlying kt = some (.int .i64)) : KeyT P kt IsI64 := by
  refine ⟨fun e a ha w => ?_, fun a ha es he w => ?_, fun a ha w => ?_⟩
  · obtain ⟨s, rfl⟩ := ha
    have key : ∀ n, (Instr.checkKey e (n + 1) kt (.int .i64 s)).run P w = .ok () w := fun n => by simp [Instr.checkKey, run_und h]
    exact key 9999
  · obtain ⟨s, rfl⟩ := ha
    simp [Instr.findKey, run_und h, findNow_int s es 0 he]
  · obtain ⟨s, rfl⟩ := ha
    simp [Instr.keyThatStays, Instr.sameBits]
/-! keys of several cells -/
theorem chk_scalar {P : Program} {t : TypeId} {v : Value} {td : TypeDesc} (h : P.underlying t = some td) (hs : (match td with | .interface _ => false | .array _ _ => false | .struct _ => false | _ => true) = true) (e : Bool) (n : Nat) (w : World) : (Instr.checkKey e (n + 1) t v).run P w = .ok () w := by
  cases td <;> simp_all [Instr.checkKey, run_und h]
theorem chk_struct {P : Program} {t : TypeId} {fs : Array Field} {xs : Array Value} {e : Bool} {n : Nat} (hu : P.underlying t = some (.struct fs)) (h : ∀ f ∈ fs.toList, f.name ≠ "_" ∧ ∃ v, ∀ w, (part f.type xs f.offset).run P w = .ok v w ∧ (Instr.checkKey e n f.type v).run P w = .ok () w) (w : World) : (Instr.checkKey e (n + 1) t (.agg xs)).run P w = .ok () w := by
  rw [Instr.checkKey]
  simp only [Sem.run_bind, run_underlying hu, Result.andThen_ok]
  rw [← Array.forIn_toList]
  generalize fs.toList = L at h
  induction L with
  | nil => simp
  | cons f L ih =>
    obtain ⟨hn, v, hv⟩ := h f (by simp)
    simp only [List.forIn_cons, Sem.run_bind, hn, ne_eq, not_false_eq_true, if_true, Result.andThen_ok, (hv w).1, (hv w).2, Sem.run_pure]
    exact ih fun y hy => h y (by simp [hy])
theorem chk_array {P : Program} {t el : TypeId} {m : Nat} {xs : Array Value} {e : Bool} {n : Nat} (hu : P.underlying t = some (.array m el)) (hz : ∀ w, (sizeOf el).run P w = .ok 1 w) (h : ∀ i, i < m → ∃ v, ∀ w, (part el xs i).run P w = .ok v w ∧ (Instr.checkKey e n el v).run P w = .ok () w) (w : World) : (Instr.checkKey e (n + 1) t (.agg xs)).run P w = .ok () w := by
  rw [Instr.checkKey]
  simp only [Sem.run_bind, run_underlying hu, Result.andThen_ok]
  simp only [Std.Legacy.Range.forIn_eq_forIn_range', Std.Legacy.Range.size, Nat.sub_zero, Nat.add_one_sub_one, Nat.div_one]
  have h' : ∀ i ∈ List.range' 0 m, ∃ v, ∀ w, (part el xs i).run P w = .ok v w ∧ (Instr.checkKey e n el v).run P w = .ok () w := fun i hi => h i (by simpa using hi)
  clear h
  generalize List.range' 0 m = is at h'
  induction is with
  | nil => simp
  | cons j is ih =>
    obtain ⟨v, hv⟩ := h' j (by simp)
    simp only [List.forIn_cons, Sem.run_bind, hz w, Result.andThen_ok, Nat.mul_one, (hv w).1, (hv w).2, Sem.run_pure]
    exact ih fun y hy => h' y (by simp [hy])
theorem ask_fk {P : Program} {kt : TypeId} {S : Value → Prop} (heq : ∀ a b, S a → S b → ∃ r : Bool, (∀ w, (Op.equal kt a b).run P w = .ok r w) ∧ (r = true ↔ a = b)) {a : Value} (ha : S a) (w : World) : ∀ (es : List MapEntry) (i : Nat), (∀ e ∈ es, S e.key) → (Instr.findAsking kt a es i).run P w = .ok (fk a es i) w
  | [], i, _ => by simp [Instr.findAsking, fk]
  | e :: es, i, h => by
    obtain ⟨r, h1, h2⟩ := heq a e.key ha (h e (by simp))
    have ih := ask_fk heq ha w es (i + 1) fun e he => h e (by simp [he])
    cases r
    · have : ¬ a = e.key := fun he => by have := h2.2 he; cases this
      simp [Instr.findAsking, h1 w, fk, this, ih]
    · have : a = e.key := h2.1 rfl
      simp only [Instr.findAsking, Sem.run_bind, h1 w, fk, if_pos this]
      simp
theorem key_wide {P : Program} {kt : TypeId} {S : Value → Prop} (hw : (match P.underlying kt with | some (.array _ _) | some (.struct _) => true | _ => false) = true) (hc : ∀ e a, S a → ∀ w, (Instr.checkKey e 10000 kt a).run P w = .ok () w)
    (heq : ∀ a b, S a → S b → ∃ r : Bool, (∀ w, (Op.equal kt a b).run P w = .ok r w) ∧ (r = true ↔ a = b)) (hb : ∀ a, S a → Instr.sameBits 10000 a a = true) : KeyT P kt S := by
  refine ⟨hc, fun a ha es he w => ?_, fun a ha w => ?_⟩
  · rw [Go.run_findKey_eq w hw]
    exact ask_fk heq ha w es 0 he
  · simp [Instr.keyThatStays, hb a ha]
def IsI2 (a : Value) : Prop := ∃ x : Int × Int, a = .agg #[.int .i64 x.1, .int .i64 x.2]
/-- arrays of two integers -/
theorem key_i2 {P : Program} {kt el : TypeId} (hu : P.underlying kt = some (.array 2 el)) (he : P.underlying el = some (.int .i64)) (h1 : OneT P el) (hi : ∃ i, P.info? el = some i) (hz : P.cellsOf el = 1) : KeyT P kt IsI2 := by
  have hp : ∀ (x y : Value) (i : Nat), i < 2 → ∃ v, (v = if i = 0 then x else y) ∧ ∀ w, (part el #[x, y] i).run P w = .ok v w := fun x y i hi => by
    refine ⟨_, rfl, fun w => ?_⟩
    match i, hi with
    | 0, _ => exact part_one h1 rfl w
    | 1, _ => exact part_one h1 rfl w
  refine key_wide (by rw [hu]) ?_ ?_ ?_
  · rintro e _ ⟨x, rfl⟩ w
    obtain ⟨q, hq⟩ := hi
    refine chk_array hu (fun w => by rw [Go.run_sizeOf w hq, hz]) (fun i hi => ?_) w
    obtain ⟨v, _, hv⟩ := hp (.int .i64 x.1) (.int .i64 x.2) i hi
    exact ⟨v, fun w => ⟨hv w, chk_scalar he rfl _ _ w⟩⟩
  · rintro _ _ ⟨x, rfl⟩ ⟨y, rfl⟩
    obtain ⟨q, hq⟩ := hi
    refine ⟨decide (x.1 = y.1) && decide (x.2 = y.2), fun w => ?_, ?_⟩
    · have e : Op.equal kt (.agg #[.int .i64 x.1, .int .i64 x.2]) (.agg #[.int .i64 y.1, .int .i64 y.2]) = Op.equalIn (9999 + 1) kt (.agg #[.int .i64 x.1, .int .i64 x.2]) (.agg #[.int .i64 y.1, .int .i64 y.2]) := rfl
      have i1 : ∀ a b w, (Op.equalIn 9999 el (.int .i64 a) (.int .i64 b)).run P w = .ok (decide (a = b)) w := fun a b w => by
        rw [run_equalIn_int w 9998 el .i64 .i64 a b he]; rfl
      have p1 : ∀ a b w, (part el #[Value.int .i64 a, .int .i64 b] 0).run P w = .ok (.int .i64 a) w := fun a b w => part_one h1 rfl w
      have p2 : ∀ a b w, (part el #[Value.int .i64 a, .int .i64 b] 1).run P w = .ok (.int .i64 b) w := fun a b w => part_one h1 rfl w
      rw [e, Go.run_equalIn_array w 9999 _ _ hu hq, hz]
      have hr : List.range 2 = [0, 1] := rfl
      simp only [hr, Go.Op.eqItems, Sem.run_bind, Nat.zero_mul, Nat.one_mul, p1, i1, Result.andThen_ok]
      by_cases h : x.1 = y.1
      · rw [decide_eq_true h]
        simp only [Bool.not_true, Bool.false_eq_true, if_false, Sem.run_bind, p2, i1, Result.andThen_ok]
        by_cases h2 : x.2 = y.2
        · simp [h2]
        · simp [h2]
      · rw [decide_eq_false h]
        simp
    · simp only [Bool.and_eq_true, decide_eq_true_eq]
      constructor
      · rintro ⟨h1, h2⟩; rw [h1, h2]
      · intro h; injection h with h; simpa using h
  · rintro _ ⟨x, rfl⟩
    have : ∀ n, Instr.sameBits (n + 1) (.agg #[.int .i64 x.1, .int .i64 x.2]) (.agg #[.int .i64 x.1, .int .i64 x.2]) = true := fun n => by simp [Instr.sameBits]
    exact this 9999
/-! maps by typed keys and values -/
def encM {α β : Type} (ek : α → Value) (ev : β → AV) (l : List (α × β)) : List (Value × AV) := l.map fun p => (ek p.1, ev p.2)
theorem encM_fst {α β : Type} (ek : α → Value) (ev : β → AV) (l : List (α × β)) : (encM ek ev l).map (·.1) = l.map fun p => ek p.1 := by simp [encM]
theorem encM_snd {α β : Type} (ek : α → Value) (ev : β → AV) (l : List (α × β)) : (encM ek ev l).map (·.2) = l.map fun p => ev p.2 := by simp [encM]
section
variable {α β : Type} [DecidableEq α]
def kidx (x : α) : List (α × β) → Option Nat
  | [] => none
  | p :: l => if x = p.1 then some 0 else (kidx x l).map (· + 1)
def lk (x : α) : List (α × β) → Option β
  | [] => none
  | p :: l => if x = p.1 then some p.2 else lk x l
def ups (x : α) (v : β) : List (α × β) → List (α × β)
  | [] => [(x, v)]
  | p :: l => if x = p.1 then (x, v) :: l else p :: ups x v l
theorem fk_mk {ek : α → Value} (hinj : ∀ x y, ek x = ek y → x = y) {x : α} : ∀ {l : List (α × β)} {us : List Value} {i s : Nat}, us.length = l.length →
    (fk (ek x) (mkEs s (l.map fun p => ek p.1) us) i = match kidx x l with | none => none | some j => (us[j]?).map fun u => (i + j, u))
  | [], us, i, s, h => by cases us <;> rfl
  | p :: l, [], i, s, h => by simp at h
  | p :: l, u :: us, i, s, h => by
    have ih := fk_mk hinj (x := x) (l := l) (us := us) (i := i + 1) (s := s + 1) (by simpa using h)
    simp only [List.map_cons, mkEs, fk, kidx]
    by_cases e : x = p.1
    · subst e; simp
    · have : ¬ ek x = ek p.1 := fun h => e (hinj _ _ h)
      simp only [this, e, if_false, ih]
      cases hj : kidx x l with
      | none => rfl
      | some j => simp [Nat.add_assoc, Nat.add_comm 1 j]
theorem idx_lt {x : α} : ∀ {l : List (α × β)} {j : Nat}, kidx x l = some j → j < l.length ∧ ∃ v, l[j]? = some (x, v) ∧ lk x l = some v
  | [], _, h => by cases h
  | p :: l, j, h => by
    simp only [kidx] at h
    by_cases e : x = p.1
    · rw [if_pos e] at h
      cases h
      subst e
      exact ⟨by simp, p.2, rfl, by simp [lk]⟩
    · rw [if_neg e] at h
      cases hj : kidx x l with
      | none => rw [hj] at h; cases h
      | some i =>
        rw [hj] at h
        simp only [Option.map_some, Option.some.injEq] at h
        subst h
        obtain ⟨h1, v, h2, h3⟩ := idx_lt hj
        exact ⟨by simp [h1], v, by simp [h2], by simp [lk, e, h3]⟩
theorem idx_none {x : α} : ∀ {l : List (α × β)}, kidx x l = none → lk x l = none ∧ ∀ v, ups x v l = l ++ [(x, v)]
  | [], _ => ⟨rfl, fun _ => rfl⟩
  | p :: l, h => by
    simp only [kidx] at h
    by_cases e : x = p.1
    · rw [if_pos e] at h; cases h
    · rw [if_neg e] at h
      cases hj : kidx x l with
      | none => obtain ⟨h1, h2⟩ := idx_none hj; exact ⟨by simp [lk, e, h1], fun v => by simp [ups, e, h2]⟩
      | some i => rw [hj] at h; cases h
theorem idx_ups {x : α} {v : β} : ∀ {l : List (α × β)} {j : Nat}, kidx x l = some j → ups x v l = l.set j (x, v)
  | [], _, h => by cases h
  | p :: l, j, h => by
    simp only [kidx] at h
    by_cases e : x = p.1
    · rw [if_pos e] at h
      cases h
      simp [ups, e]
    · rw [if_neg e] at h
      cases hj : kidx x l with
      | none => rw [hj] at h; cases h
      | some i =>
        rw [hj] at h
        simp only [Option.map_some, Option.some.injEq] at h
        subst h
        simp [ups, e, idx_ups hj]
end
theorem mkEs_get : ∀ {ks us : List Value} {s j : Nat} {k u : Value}, ks[j]? = some k → us[j]? = some u → (mkEs s ks us)[j]? = some ⟨k, u, s + j⟩
  | k :: ks, u :: us, s, 0, _, _, h1, h2 => by simp at h1 h2; simp [mkEs, h1, h2]
  | k :: ks, u :: us, s, j + 1, _, _, h1, h2 => by
    simp only [List.getElem?_cons_succ] at h1 h2
    have := mkEs_get (s := s + 1) h1 h2
    simp only [mkEs, List.getElem?_cons_succ, this]
    rw [show s + 1 + j = s + (j + 1) by omega]
  | [], _, _, _, _, _, h1, _ => by simp at h1
  | _ :: _, [], _, _, _, _, _, h2 => by simp at h2
theorem mkEs_len : ∀ {ks us : List Value} {s : Nat}, us.length = ks.length → (mkEs s ks us).length = ks.length
  | [], [], _, _ => rfl
  | k :: ks, u :: us, s, h => by simp only [mkEs, List.length_cons, mkEs_len (ks := ks) (us := us) (s := s + 1) (by simpa using h)]
  | [], _ :: _, _, h => by simp at h
  | _ :: _, [], _, h => by simp at h
theorem mkEs_snoc : ∀ {ks us : List Value} {s : Nat} {k u : Value}, us.length = ks.length → mkEs s (ks ++ [k]) (us ++ [u]) = mkEs s ks us ++ [⟨k, u, s + ks.length⟩]
  | [], [], s, _, _, _ => by simp [mkEs]
  | k :: ks, u :: us, s, _, _, h => by
    simp only [List.cons_append, mkEs, mkEs_snoc (ks := ks) (us := us) (s := s + 1) (by simpa using h), List.length_cons]
    rw [show s + 1 + ks.length = s + (ks.length + 1) by omega]
  | [], _ :: _, _, _, _, h => by simp at h
  | _ :: _, [], _, _, _, h => by simp at h
theorem mkEs_mem : ∀ {ks us : List Value} {s : Nat} {e : MapEntry}, e ∈ mkEs s ks us → e.key ∈ ks ∧ s ≤ e.born ∧ e.born < s + ks.length ∧ ks[e.born - s]? = some e.key ∧ us[e.born - s]? = some e.val
  | [], _, _, _, h => by simp [mkEs] at h
  | _ :: _, [], _, _, h => by simp [mkEs] at h
  | k :: ks, u :: us, s, e, h => by
    simp only [mkEs, List.mem_cons] at h
    rcases h with rfl | h
    · simp
    · obtain ⟨h1, h2, h3, h4, h5⟩ := mkEs_mem h
      refine ⟨List.mem_cons_of_mem _ h1, by omega, by simp only [List.length_cons]; omega, ?_, ?_⟩
      · rw [show e.born - s = (e.born - (s + 1)) + 1 by omega]; simpa using h4
      · rw [show e.born - s = (e.born - (s + 1)) + 1 by omega]; simpa using h5
theorem mkEs_set : ∀ {ks us : List Value} {s j : Nat} {k u : Value} (_ : us.length = ks.length), ks[j]? = some k → (mkEs s ks us).modify j (fun e => { e with key := k, val := u }) = mkEs s ks (us.set j u)
  | k :: ks, u :: us, s, 0, _, _, _, h => by simp at h; subst h; simp [mkEs]
  | k :: ks, u :: us, s, j + 1, _, _, hl, h => by
    simp only [List.getElem?_cons_succ] at h
    simp only [mkEs, List.modify_succ_cons, List.set_cons_succ, mkEs_set (s := s + 1) (by simpa using hl) h]
  | [], _, _, _, _, _, _, h => by simp at h
  | _ :: _, [], _, _, _, _, hl, _ => by simp at hl
/-- the value of a key, if all of its cells are known -/
def AV.ex : AV → Option Value
  | .v u => some u
  | .agg cs => match exacts cs with
    | some us => some (.agg us.toArray)
    | none => none
  | _ => none
theorem Rel.ex {H : Cells} {a : AV} {v u : Value} (h : Rel H a v) (he : a.ex = some u) : v = u := by
  cases a with
  | v x => simp only [AV.ex, Option.some.injEq] at he; subst he; exact h.inv
  | agg cs =>
    obtain ⟨vs, rfl, hr⟩ := h.inv_agg
    simp only [AV.ex] at he
    split at he
    · rename_i us e; simp only [Option.some.injEq] at he; subst he; rw [hr.exact e]
    · cases he
  | _ => simp [AV.ex] at he
section
variable {P : Program} {T : Tr} {c : Ctx} {n : Cfg} {ops : Array Oper} {F : Fr} {L : List Ent} {H : Cells} {w : World}
variable {d : Option Tmp} {ty : TypeId} {pos : String} {aft : Array Edge} {R : AV → List Ent → Prop}
/-- entry i, a block that is no row of cells, put anew -/
theorem St.put {i g : Nat} {e e' : Ent} (o' : Obj) (h : St c H w L) (hL : L[i]? = some e) (ho : e.own = some g) (ho' : e'.own = some g) (hn : ∀ o, H g o = none) (he' : e'.In H c.w0.heap.size (w.putObj g o')) : St c H (w.putObj g o') (L.set i e') :=
  h.turn hL (hin_heap h.hin fun b o u hu => World.putObj_heap_other (fun e => by subst e; rw [hn o] at hu; cases hu)) he'
    ⟨rfl, rfl, rfl, by simp [World.putObj], fun k _ hk => World.putObj_heap_other (fun e => hk (by rw [e, ho]))⟩ (.inl (by rw [ho, ho'])) (Nat.le_refl _)
theorem St.newMap {w : World} (hi : HIn H w) : St ⟨w, H⟩ H (w.alloc (.map #[] 0)) [.mp w.heap.size []] :=
  ⟨(Below.refl _ _).alloc (Nat.le_refl _) _, Cells.le_refl _, hin_heap hi (fun b o u hu => Below.heap_alloc _ _ _ (hi.lt hu)), fun _ _ _ h _ => h, by
    intro e he
    simp only [List.mem_singleton] at he
    subst he
    refine ⟨Nat.le_refl _, [], heap_alloc_new w _, .nil, fun o => ?_⟩
    cases hu : H w.heap.size o with
    | none => rfl
    | some u => have := hi.lt hu; omega, by simp, Nat.le_refl _⟩
section
variable {α β : Type} {ek : α → Value} {ev : β → AV} {S : Value → Prop} {kt vt : TypeId} {l : List (α × β)} {g : Nat}
structure MapK (P : Program) (t kt vt : TypeId) (ek : α → Value) (S : Value → Prop) : Prop where
  und : P.underlying t = some (.map kt vt)
  key : KeyT P kt S
  all : ∀ x, S (ek x)
  inj : ∀ x y, ek x = ek y → x = y
theorem map_at {i : Nat} (hs : St c H w L) (hL : L[i]? = some (.mp g (encM ek ev l))) : ∃ us, w.heap[g]? = some (.map (mkEs 0 (l.map fun p => ek p.1) us).toArray l.length) ∧ RelL H (l.map fun p => ev p.2) us ∧ us.length = l.length ∧ (∀ o, H g o = none) ∧ c.w0.heap.size ≤ g := by
  obtain ⟨h1, us, h2, h3, h4⟩ := hs.holds _ (List.mem_of_getElem? hL)
  rw [encM_fst] at h2
  rw [encM_snd] at h3
  refine ⟨us, ?_, h3, ?_, h4, h1⟩
  · simpa [encM] using h2
  · have := h3.len; simpa using this.symm
theorem map_find [DecidableEq α] {t : TypeId} {us : List Value} (hk : MapK P t kt vt ek S) (hl : us.length = l.length) (x : α) (w : World) :
    (Instr.findKey kt (ek x) (mkEs 0 (l.map fun p => ek p.1) us)).run P w = .ok (match kidx x l with | none => none | some j => (us[j]?).map fun u => (j, u)) w := by
  rw [hk.key.fnd _ (hk.all x) _ (fun e he => by
    obtain ⟨h, _⟩ := mkEs_mem he
    simp only [List.mem_map] at h
    obtain ⟨p, _, e⟩ := h
    rw [← e]; exact hk.all _), fk_mk hk.inj hl]
  cases kidx x l <;> simp
theorem Gr.mget [DecidableEq α] {t : TypeId} {m y : Operand} {ak : AV} {x : α} {z : Value} {dflt : β} (hk : MapK P t kt vt ek S) (hz : (P.info? vt).bind (·.zero) = some z) (hd : ∀ H, Rel H (ev dflt) z) (i : Nat) (hL : L[i]? = some (.mp g (encM ek ev l))) (hm : oget n F m = some (.v (.map (some g)))) (hy : oget n F y = some ak) (hx : ak.ex = some (ek x)) :
    Gr P c n (.lookup t m y false) ty F L (ev ((lk x l).getD dflt)) ∧ Gr P c n (.lookup t m y true) ty F L (.tup [ev ((lk x l).getD dflt), B (lk x l).isSome]) := by
  have key : ∀ H w ρ, St c H w L → Reads H n F #[m, y] ρ → ∃ v, Rel H (ev ((lk x l).getD dflt)) v ∧ ∀ b, (Instr.lookup t (ρ m) (ρ y) b).run P w = .ok (if b then .tuple #[v, .bool (lk x l).isSome] else v) w := by
    intro H w ρ hs hr
    obtain ⟨us, h1, h2, h3, h4, _⟩ := map_at hs hL
    have e1 := (hr m (by simp) _ hm).inv
    have e2 := (hr y (by simp) _ hy).ex hx
    have hf := map_find hk h3 x w
    have hg : (getObj g).run P w = .ok (.map (mkEs 0 (l.map fun p => ek p.1) us).toArray l.length) w := by simp [getObj, Sem.run, h1]
    cases hj : kidx x l with
    | none =>
      rw [hj] at hf
      have hlk := (idx_none hj).1
      refine ⟨z, by rw [hlk]; exact hd H, fun b => ?_⟩
      have hzv : (zeroValue vt).run P w = .ok z w := by
        cases hi : P.info? vt with
        | none => rw [hi] at hz; cases hz
        | some q => rw [hi] at hz; simp only [Option.bind_some] at hz; simp [zeroValue, typeInfo, hi, hz]
      simp [Instr.lookup, run_und hk.und, e1, e2, hg, hk.key.chk _ _ (hk.all x), hf, hzv, hlk]
    | some j =>
      obtain ⟨hlt, v, hv, hlk⟩ := idx_lt hj
      obtain ⟨u, hu, hru⟩ := h2.get (i := j) (c := ev v) (by simp [hv])
      rw [hj] at hf
      simp only [hu, Option.map_some] at hf
      refine ⟨u, by rw [hlk]; exact hru, fun b => ?_⟩
      simp [Instr.lookup, run_und hk.und, e1, e2, hg, hk.key.chk _ _ (hk.all x), hf, hlk]
  constructor
  · refine .pure fun H w ρ hs hr d pos aft gd => ?_
    obtain ⟨v, h1, h2⟩ := key H w ρ hs hr
    exact ⟨v, by simp [execOp, h2 false], h1⟩
  · refine .pure fun H w ρ hs hr d pos aft gd => ?_
    obtain ⟨v, h1, h2⟩ := key H w ρ hs hr
    exact ⟨_, by simp [execOp, h2 true] <;> rfl, .tup (.cons h1 (.cons (.v _) .nil))⟩
theorem Eff.op {o : Op} (h : ∀ G H w a, (∀ x ∈ o.operands, oget n F x = oget n G x) → St c H w L → Fit H n G a → ∃ nx w' v r H' L', (execOp a.eval ⟨d, o, ty, pos, aft, none⟩).run P w = .ok nx w' ∧ ((nx = .value v) ∨ (nx = .skip ∧ v = undef)) ∧ H.le H' ∧ St c H' w' L' ∧ Rel H' r v ∧ R r L') : Eff P c n ops ⟨d, o, ty, pos, aft, none⟩ F L R :=
  ⟨fun G Q hag hk => Lx.op rfl fun H w a hs hF => by
    obtain ⟨nx, w', v, r, H', L', h1, h2, h3, h4, h5, h6⟩ := h G H w a (fun x hm => look_op hag hm) hs hF
    exact ⟨nx, w', v, r, H', L', h1, h2, h3, h4, h5, hk r L' h6⟩⟩
theorem run_getMap {es : Array MapEntry} {k : Nat} (h : w.heap[g]? = some (.map es k)) : (getObj g).run P w = .ok (.map es k) w := by simp [getObj, Sem.run, h]
theorem run_putMap {es : Array MapEntry} {k : Nat} (o : Obj) (h : w.heap[g]? = some (.map es k)) : (setObj g o).run P w = .ok () (w.putObj g o) := by simp [setObj, Sem.run, h, World.putObj]
theorem Eff.mkmap {t : TypeId} : Eff P c n ops ⟨d, .makeMap t none, ty, pos, aft, none⟩ F L fun r L' => ∃ g, r = .v (.map (some g)) ∧ L' = .mp g [] :: L :=
  Eff.op fun G H w a _ hs hF => ⟨.value (.map (some w.heap.size)), w.alloc (.map #[] 0), _, .v (.map (some w.heap.size)), H, _, by simp [execOp, Instr.makeMap, newObj]; rfl, .inl rfl, Cells.le_refl _, hs.trans (St.newMap hs.hin), .v _, ⟨_, rfl, rfl⟩⟩
theorem map_put {i : Nat} {us : List Value} {l' : List (α × β)} (hs : St c H w L) (hL : L[i]? = some (.mp g (encM ek ev l))) (hn : ∀ o, H g o = none) (hb : c.w0.heap.size ≤ g) (hlt : g < w.heap.size) (hr : RelL H (l'.map fun p => ev p.2) us) :
    St c H (w.putObj g (.map (mkEs 0 (l'.map fun p => ek p.1) us).toArray l'.length)) (L.set i (.mp g (encM ek ev l'))) :=
  hs.put (e' := .mp g (encM ek ev l')) _ hL rfl rfl hn ⟨hb, us, by rw [World.putObj_heap_same hlt, encM_fst]; simp [encM], by rw [encM_snd]; exact hr, hn⟩
theorem Eff.mset [DecidableEq α] {t : TypeId} {m y z : Operand} {ak : AV} {x : α} {v : β} (hk : MapK P t kt vt ek S) (i : Nat) (hL : L[i]? = some (.mp g (encM ek ev l))) (hm : oget n F m = some (.v (.map (some g)))) (hy : oget n F y = some ak) (hx : ak.ex = some (ek x)) (hz : oget n F z = some (ev v)) :
    Eff P c n ops ⟨d, .mapUpdate t m y z, ty, pos, aft, none⟩ F L fun r L' => r = .v undef ∧ L' = L.set i (.mp g (encM ek ev (ups x v l))) :=
  Eff.op fun G H w a hag hs hF => by
    obtain ⟨us, h1, h2, h3, h4, h5⟩ := map_at hs hL
    have e1 := (hF.eval (by rw [← hag m (by simp [Op.operands])]; exact hm)).inv
    have e2 := (hF.eval (by rw [← hag y (by simp [Op.operands])]; exact hy)).ex hx
    have e3 := hF.eval (x := z) (by rw [← hag z (by simp [Op.operands])]; exact hz)
    have hf := map_find hk h3 x w
    have hlt := blk_lt h1
    cases hj : kidx x l with
    | none =>
      rw [hj] at hf
      have hu := (idx_none hj).2 v
      have hrel : RelL H ((l ++ [(x, v)]).map fun p => ev p.2) (us ++ [a.eval z]) := by
        rw [List.map_append]
        exact h2.append (.cons e3 .nil)
      refine ⟨.skip, _, undef, _, H, _, ?_, .inr ⟨rfl, rfl⟩, Cells.le_refl _, map_put (l' := l ++ [(x, v)]) hs hL h4 h5 hlt hrel, .v _, ⟨rfl, by rw [hu]⟩⟩
      simp only [List.map_append, List.map_cons, List.map_nil, List.length_append, List.length_cons, List.length_nil]
      rw [mkEs_snoc (by simpa using h3)]
      simp [execOp, e1, e2, Instr.mapUpdate, run_und hk.und, run_getMap h1, hk.key.chk _ _ (hk.all x), hf, run_putMap _ h1]
    | some j =>
      obtain ⟨hjl, v0, hv0, _⟩ := idx_lt hj
      obtain ⟨u, hu, _⟩ := h2.get (i := j) (c := ev v0) (by simp [hv0])
      rw [hj] at hf
      simp only [hu, Option.map_some] at hf
      have hup := idx_ups (v := v) hj
      have hks : (l.map fun p => ek p.1)[j]? = some (ek x) := by simp [hv0]
      have hrel : RelL H ((l.set j (x, v)).map fun p => ev p.2) (us.set j (a.eval z)) := by
        rw [List.map_set]
        exact h2.set e3 j
      have hkeys : (l.set j (x, v)).map (fun p => ek p.1) = l.map fun p => ek p.1 := by
        rw [List.map_set]
        apply List.ext_getElem?
        intro q
        rw [List.getElem?_set]
        split
        · rename_i e; subst e; split
          · exact hks.symm
          · rename_i hq; exact absurd (by simpa using hjl) hq
        · rfl
      refine ⟨.skip, _, undef, _, H, _, ?_, .inr ⟨rfl, rfl⟩, Cells.le_refl _, map_put (l' := l.set j (x, v)) hs hL h4 h5 hlt hrel, .v _, ⟨rfl, by rw [hup]⟩⟩
      rw [hkeys, ← mkEs_set (s := 0) (u := a.eval z) (by simpa using h3) hks]
      have hgk : ((mkEs 0 (l.map fun p => ek p.1) us).toArray[j]?).map (·.key) = some (ek x) := by
        rw [List.getElem?_toArray, mkEs_get hks hu]; rfl
      simp [execOp, e1, e2, Instr.mapUpdate, run_und hk.und, run_getMap h1, hk.key.chk _ _ (hk.all x), hf, mkEs_get hks hu, hk.key.bits _ (hk.all x), run_putMap _ h1]
/-- an entry made, or met, and its stamp -/
theorem kidx_ups [DecidableEq α] (x : α) (v : β) : ∀ l : List (α × β), ∃ j, kidx x (ups x v l) = some j
  | [] => ⟨0, by simp [ups, kidx]⟩
  | p :: l => by
    rw [ups]
    by_cases e : x = p.1
    · exact ⟨0, by rw [if_pos e]; simp [kidx]⟩
    · obtain ⟨j, hj⟩ := kidx_ups x v l
      exact ⟨j + 1, by rw [if_neg e, kidx, if_neg e, hj]; rfl⟩
theorem ups_ups [DecidableEq α] (x : α) (u v : β) : ∀ l : List (α × β), ups x v (ups x u l) = ups x v l
  | [] => by simp [ups]
  | p :: l => by
    rw [ups]
    by_cases e : x = p.1
    · rw [if_pos e, ups, if_pos rfl, ups, if_pos e]
    · rw [if_neg e, ups, if_neg e, ups_ups x u v l, ups, if_neg e]
theorem Eff.mentry [DecidableEq α] {t : TypeId} {m y : Operand} {ak : AV} {x : α} {z : Value} {dflt : β} (hk : MapK P t kt vt ek S) (hz : (P.info? vt).bind (·.zero) = some z) (hd : ∀ H, Rel H (ev dflt) z) (i : Nat) (hL : L[i]? = some (.mp g (encM ek ev l))) (hm : oget n F m = some (.v (.map (some g)))) (hy : oget n F y = some ak) (hx : ak.ex = some (ek x)) :
    Eff P c n ops ⟨d, .mapEntry t m y, ty, pos, aft, none⟩ F L fun r L' => ∃ j, kidx x (ups x ((lk x l).getD dflt) l) = some j ∧ r = .tup [ev ((lk x l).getD dflt), I (j : Nat)] ∧ L' = L.set i (.mp g (encM ek ev (ups x ((lk x l).getD dflt) l))) :=
  Eff.op fun G H w a hag hs hF => by
    obtain ⟨us, h1, h2, h3, h4, h5⟩ := map_at hs hL
    have e1 := (hF.eval (by rw [← hag m (by simp [Op.operands])]; exact hm)).inv
    have e2 := (hF.eval (by rw [← hag y (by simp [Op.operands])]; exact hy)).ex hx
    have hf := map_find hk h3 x w
    have hlt := blk_lt h1
    cases hj : kidx x l with
    | none =>
      rw [hj] at hf
      have hlk := (idx_none hj).1
      have hu := (idx_none hj).2 dflt
      have hrel : RelL H ((l ++ [(x, dflt)]).map fun p => ev p.2) (us ++ [z]) := by
        rw [List.map_append]
        exact h2.append (.cons (hd H) .nil)
      have hzv : (zeroValue vt).run P w = .ok z w := by
        cases hi : P.info? vt with
        | none => rw [hi] at hz; cases hz
        | some q => rw [hi] at hz; simp only [Option.bind_some] at hz; simp [zeroValue, typeInfo, hi, hz]
      have hkk : kidx x (l ++ [(x, dflt)]) = some l.length := by
        clear hf hrel hu hlk h1 h2 h3 hL
        induction l with
        | nil => simp [kidx]
        | cons p l ih =>
          rw [kidx] at hj
          by_cases e : x = p.1
          · rw [if_pos e] at hj; cases hj
          · rw [if_neg e] at hj
            rw [List.cons_append, kidx, if_neg e, ih (by cases hq : kidx x l with | none => rfl | some j => rw [hq] at hj; cases hj)]
            rfl
      refine ⟨.value (.tuple #[z, .int .i64 l.length]), _, _, .tup [ev dflt, I (l.length : Nat)], H, _, ?_, .inl rfl, Cells.le_refl _, map_put (l' := l ++ [(x, dflt)]) hs hL h4 h5 hlt hrel, .tup (.cons (hd H) (.cons (.v _) .nil)), ⟨l.length, by rw [hlk, Option.getD_none, hu]; exact hkk, by rw [hlk]; rfl, by rw [hlk, Option.getD_none, hu]⟩⟩
      simp only [List.map_append, List.map_cons, List.map_nil, List.length_append, List.length_cons, List.length_nil]
      rw [mkEs_snoc (by simpa using h3)]
      simp [execOp, e1, e2, Instr.mapEntry, run_und hk.und, run_getMap h1, hk.key.chk _ _ (hk.all x), hf, hzv, run_putMap _ h1, goInt]
    | some j =>
      obtain ⟨hjl, v0, hv0, hlk⟩ := idx_lt hj
      obtain ⟨u, hu, hru⟩ := h2.get (i := j) (c := ev v0) (by simp [hv0])
      rw [hj] at hf
      simp only [hu, Option.map_some] at hf
      have hup := idx_ups (v := v0) hj
      have hset : l.set j (x, v0) = l := by
        apply List.ext_getElem?
        intro q
        rw [List.getElem?_set]
        split
        · rename_i e; subst e; exact hv0.symm
        · rfl
      have hks : (l.map fun p => ek p.1)[j]? = some (ek x) := by simp [hv0]
      have hsetu : us.set j u = us := by
        apply List.ext_getElem?
        intro q
        rw [List.getElem?_set]
        split
        · rename_i e; subst e; rw [if_pos (List.getElem?_eq_some_iff.1 hu).1, hu]
        · rfl
      refine ⟨.value (.tuple #[u, .int .i64 j]), _, _, .tup [ev v0, I (j : Nat)], H, _, ?_, .inl rfl, Cells.le_refl _, map_put (l' := l) hs hL h4 h5 hlt h2, .tup (.cons hru (.cons (.v _) .nil)), ⟨j, by rw [hlk, Option.getD_some, hup, hset]; exact hj, by rw [hlk]; rfl, by rw [hlk, Option.getD_some, hup, hset]⟩⟩
      have hmod : (mkEs 0 (l.map fun p => ek p.1) us).modify j (fun e => { e with key := ek x }) = mkEs 0 (l.map fun p => ek p.1) us := by
        have h9 := mkEs_set (s := 0) (u := u) (by simpa using h3) hks
        rw [hsetu] at h9
        refine Eq.trans ?_ h9
        apply List.ext_getElem?
        intro q
        rw [List.getElem?_modify, List.getElem?_modify]
        by_cases e : j = q
        · subst e
          rw [mkEs_get hks hu]
          simp
        · simp [e]
      rw [← hmod]
      simp [execOp, e1, e2, Instr.mapEntry, run_und hk.und, run_getMap h1, hk.key.chk _ _ (hk.all x), hf, mkEs_get hks hu, hk.key.bits _ (hk.all x), run_putMap _ h1, goInt]
theorem mkEs_idx : ∀ {ks us : List Value} {s j : Nat}, us.length = ks.length → j < ks.length → (mkEs s ks us).findIdx? (fun e => decide ((e.born : Int) = ((s + j : Nat) : Int))) = some j
  | k :: ks, u :: us, s, 0, _, _ => by simp [mkEs, List.findIdx?_cons]
  | k :: ks, u :: us, s, j + 1, hl, hj => by
    have ih := mkEs_idx (ks := ks) (us := us) (s := s + 1) (j := j) (by simpa using hl) (by simpa using hj)
    rw [mkEs, List.findIdx?_cons]
    rw [show decide (((s : Nat) : Int) = ((s + (j + 1) : Nat) : Int)) = false by rw [decide_eq_false_iff_not]; omega]
    rw [show s + (j + 1) = s + 1 + j by omega, ih]
    rfl
  | [], _, _, _, _, h => by simp at h
  | _ :: _, [], _, _, h, _ => by simp at h
theorem Eff.mstore [DecidableEq α] {t : TypeId} {m y z : Operand} {x : α} {v : β} {j : Nat} (i : Nat) (hL : L[i]? = some (.mp g (encM ek ev l))) (hj : kidx x l = some j) (hm : oget n F m = some (.v (.map (some g)))) (hy : oget n F y = some (I (j : Nat))) (hz : oget n F z = some (ev v)) :
    Eff P c n ops ⟨d, .entryStore t m y z, ty, pos, aft, none⟩ F L fun r L' => r = .v undef ∧ L' = L.set i (.mp g (encM ek ev (ups x v l))) :=
  Eff.op fun G H w a hag hs hF => by
    obtain ⟨us, h1, h2, h3, h4, h5⟩ := map_at hs hL
    have e1 := (hF.eval (by rw [← hag m (by simp [Op.operands])]; exact hm)).inv
    have e2 := (hF.eval (by rw [← hag y (by simp [Op.operands])]; exact hy)).inv
    have e3 := hF.eval (x := z) (by rw [← hag z (by simp [Op.operands])]; exact hz)
    have hlt := blk_lt h1
    obtain ⟨hjl, v0, hv0, _⟩ := idx_lt hj
    obtain ⟨u, hu, _⟩ := h2.get (i := j) (c := ev v0) (by simp [hv0])
    have hup := idx_ups (v := v) hj
    have hks : (l.map fun p => ek p.1)[j]? = some (ek x) := by simp [hv0]
    have hrel : RelL H ((l.set j (x, v)).map fun p => ev p.2) (us.set j (a.eval z)) := by
      rw [List.map_set]
      exact h2.set e3 j
    have hkeys : (l.set j (x, v)).map (fun p => ek p.1) = l.map fun p => ek p.1 := by
      rw [List.map_set]
      apply List.ext_getElem?
      intro q
      rw [List.getElem?_set]
      split
      · rename_i e; subst e; split
        · exact hks.symm
        · rename_i hq; exact absurd (by simpa using hjl) hq
      · rfl
    refine ⟨.skip, _, undef, _, H, _, ?_, .inr ⟨rfl, rfl⟩, Cells.le_refl _, map_put (l' := l.set j (x, v)) hs hL h4 h5 hlt hrel, .v _, ⟨rfl, by rw [hup]⟩⟩
    have hmod : (mkEs 0 (l.map fun p => ek p.1) us).modify j (fun e => { e with val := a.eval z }) = mkEs 0 (l.map fun p => ek p.1) (us.set j (a.eval z)) := by
      rw [← mkEs_set (s := 0) (u := a.eval z) (by simpa using h3) hks]
      apply List.ext_getElem?
      intro q
      rw [List.getElem?_modify, List.getElem?_modify]
      by_cases e : j = q
      · subst e
        rw [mkEs_get hks hu]
        rfl
      · simp [e]
    have hix := mkEs_idx (ks := l.map fun p => ek p.1) (us := us) (s := 0) (j := j) (by simpa using h3) (by simpa using hjl)
    rw [Nat.zero_add] at hix
    have hix2 : (mkEs 0 (l.map fun p => ek p.1) us).findIdx? (fun e => ((e.born : Int) == (j : Int))) = some j := by
      rw [← hix]
      congr 1
    rw [hkeys, ← hmod]
    simp [execOp, e1, e2, Instr.entryStore, run_getMap h1, asInt, asIntOf, hix2, run_putMap _ h1]
theorem Gr.mlen {t : TypeId} {m : Operand} (hk : MapK P t kt vt ek S) (i : Nat) (hL : L[i]? = some (.mp g (encM ek ev l))) (hm : oget n F m = some (.v (.map (some g)))) : Gr P c n (.call ⟨.builtin .len, #[m], #[t]⟩) ty F L (I l.length) :=
  .pure fun H w ρ hs hr d pos aft _ => by
    obtain ⟨us, h1, h2, h3, h4, _⟩ := map_at hs hL
    have e1 := hr.v (by simp [Op.operands, Call.operands]) hm
    refine ⟨.int .i64 l.length, ?_, .v _⟩
    have hl : (mkEs 0 (l.map fun p => ek p.1) us).length = l.length := by rw [mkEs_len (by simpa using h3)]; simp
    simp [execOp, resolve, invoke, builtin, e1, Builtin.len_, run_und hk.und, run_getMap h1, goInt, hl]
/-! ranging over a map that stands still -/
theorem Eff.range {t : TypeId} {m : Operand} (hk : MapK P t kt vt ek S) (i : Nat) (hL : L[i]? = some (.mp g (encM ek ev l))) (hm : oget n F m = some (.v (.map (some g)))) :
    Eff P c n ops ⟨d, .range t m, ty, pos, aft, none⟩ F L fun r L' => ∃ q, r = .v (.pointer (some ⟨q, 0, none⟩)) ∧ L' = .obj q (.mapIter (some g) l.length #[] l.length) :: L :=
  Eff.op fun G H w a hag hs hF => by
    obtain ⟨us, h1, h2, h3, h4, h5⟩ := map_at hs hL
    have e1 := (hF.eval (by rw [← hag m (by simp [Op.operands])]; exact hm)).inv
    refine ⟨.value (.pointer (some ⟨w.heap.size, 0, none⟩)), w.alloc (.mapIter (some g) l.length #[] l.length), _, _, H, _, ?_, .inl rfl, Cells.le_refl _, hs.trans (St.newObj hs.hin _), .v _, ⟨_, rfl, rfl⟩⟩
    simp [execOp, e1, Instr.range, run_und hk.und, run_getMap h1, newObj]
    rfl
/-- the entries that a range has seen: seen, in their order -/
theorem Eff.next {q j c0 : Nat} {it : Operand} {seen : List Nat} (i : Nat) (hL : L[i]? = some (.mp g (encM ek ev l))) (hJ : L[j]? = some (.obj q (.mapIter (some g) l.length seen.toArray c0))) (hc : Nat.ble l.length c0 = true) (hm : oget n F it = some (.v (.pointer (some ⟨q, 0, none⟩)))) :
    Eff P c n ops ⟨d, .next it false, ty, pos, aft, none⟩ F L fun r L' => ((∀ k, k < l.length → k ∈ seen) ∧ r = .tup [B false] ∧ L' = L) ∨
      ∃ k p, l[k]? = some p ∧ k ∉ seen ∧ r = .tup [B true, .v (ek p.1), ev p.2] ∧ L' = L.set j (.obj q (.mapIter (some g) l.length (seen ++ [k]).toArray l.length)) :=
  Eff.op fun G H w a hag hs hF => by
    obtain ⟨us, h1, h2, h3, h4, h5⟩ := map_at hs hL
    obtain ⟨j1, j2, j3⟩ := hs.holds _ (List.mem_of_getElem? hJ)
    have e1 := (hF.eval (by rw [← hag it (by simp [Op.operands])]; exact hm)).inv
    have hks : (l.map fun p => ek p.1).length = l.length := by simp
    have hmem : ∀ x ∈ (mkEs 0 (l.map fun p => ek p.1) us).toArray.toList, x.born < l.length := fun x hx => by
      have := mkEs_mem (by simpa using hx)
      omega
    rcases run_next_at (P := P) w ty q g l.length c0 seen.toArray _ l.length j2 h1 hmem (Nat.le_of_ble_eq_true hc) with ⟨hz, hrun⟩ | ⟨e, he, w1, hw1, hrun⟩
    · refine ⟨_, w, _, .tup [B false], H, L, by simp [execOp, e1, hrun], .inl rfl, Cells.le_refl _, hs, .tup (.cons (.v _) .nil), .inl ⟨fun k hk => ?_, rfl, rfl⟩⟩
      have hu : k < us.length := by omega
      have hget := mkEs_get (s := 0) (j := k) (ks := l.map fun p => ek p.1) (us := us) (List.getElem?_eq_getElem (by simpa using hk)) (List.getElem?_eq_getElem hu)
      have hm2 := List.mem_of_getElem? hget
      have : leftOf (mkEs 0 (l.map fun p => ek p.1) us).toArray seen.toArray = #[] := Array.eq_empty_of_size_eq_zero hz
      unfold leftOf at this
      rw [Array.filter_eq_empty_iff] at this
      have := this _ (by simpa using hm2)
      simpa using this
    · have hel : e ∈ mkEs 0 (l.map fun p => ek p.1) us ∧ e.born ∉ seen := by
        unfold leftOf at he
        simpa using he
      obtain ⟨g1, g2, g3, g4, g5⟩ := mkEs_mem hel.1
      simp only [Nat.sub_zero] at g4 g5
      have hbl : e.born < l.length := by omega
      obtain ⟨p, hp⟩ : ∃ p, l[e.born]? = some p := ⟨_, List.getElem?_eq_getElem hbl⟩
      have hkey : e.key = ek p.1 := by
        rw [List.getElem?_map, hp] at g4
        simpa using g4.symm
      obtain ⟨u, hu, hru⟩ := h2.get (i := e.born) (c := ev p.2) (by simp [hp])
      rw [g5] at hu
      cases hu
      have hs1 : St c H w1 L := by
        rcases hw1 with rfl | rfl
        · exact hs
        · exact hs.drew
      have hst : St c H (w1.putObj q (.mapIter (some g) l.length (seen ++ [e.born]).toArray l.length)) (L.set j (.obj q (.mapIter (some g) l.length (seen ++ [e.born]).toArray l.length))) := by
        obtain ⟨k1, k2, k3⟩ := hs1.holds _ (List.mem_of_getElem? hJ)
        exact hs1.put (e' := .obj q (.mapIter (some g) l.length (seen ++ [e.born]).toArray l.length)) _ hJ rfl rfl k3 ⟨k1, World.putObj_heap_same (blk_lt k2), k3⟩
      rw [hkey] at hrun
      refine ⟨.value (.tuple #[.bool true, ek p.1, e.val]), _, _, .tup [B true, .v (ek p.1), ev p.2], H, _, ?_, .inl rfl, Cells.le_refl _, hst, .tup (.cons (.v _) (.cons (.v _) (.cons hru .nil))), .inr ⟨e.born, p, hp, hel.2, rfl, rfl⟩⟩
      simp [execOp, e1, hrun, Go.ChangeMaps.setBlock, World.putObj]
theorem Gr.entry {q j k : Nat} {it : Operand} {seen : List Nat} {p : α × β} (i : Nat) (hL : L[i]? = some (.mp g (encM ek ev l))) (hJ : L[j]? = some (.obj q (.mapIter (some g) l.length (seen ++ [k]).toArray l.length))) (hm : oget n F it = some (.v (.pointer (some ⟨q, 0, none⟩)))) (hp : l[k]? = some p) :
    Gr P c n (.entry it) ty F L (.tup [.v (ek p.1), ev p.2]) :=
  .pure fun H w ρ hs hr d pos aft _ => by
    obtain ⟨us, h1, h2, h3, h4, _⟩ := map_at hs hL
    obtain ⟨j1, j2, j3⟩ := hs.holds _ (List.mem_of_getElem? hJ)
    have e1 := hr.v (by simp [Op.operands]) hm
    obtain ⟨u, hu, hru⟩ := h2.get (i := k) (c := ev p.2) (by simp [hp])
    have hget := mkEs_get (s := 0) (j := k) (ks := l.map fun p => ek p.1) (us := us) (k := ek p.1) (u := u) (by simp [hp]) hu
    have hnd : ((mkEs 0 (l.map fun p => ek p.1) us).map (·.born)).Nodup := by
      have : ∀ (ks us : List Value) (s : Nat), ((mkEs s ks us).map (·.born)).Nodup := by
        intro ks
        induction ks with
        | nil => intro us s; simp [mkEs]
        | cons k ks ih =>
          intro us s
          cases us with
          | nil => simp [mkEs]
          | cons u us =>
            simp only [mkEs, List.map_cons, List.nodup_cons]
            refine ⟨fun hm => ?_, ih us (s + 1)⟩
            obtain ⟨e, he, hb⟩ := List.mem_map.1 hm
            have := mkEs_mem he
            omega
      exact this _ _ _
    have hrun := run_entry_at (P := P) w q g l.length seen.toArray (mkEs 0 (l.map fun p => ek p.1) us).toArray l.length ⟨ek p.1, u, 0 + k⟩ (by simpa using j2) h1 (by simpa using List.mem_of_getElem? hget) (by simpa using hnd)
    exact ⟨_, by simp [execOp, e1, hrun] <;> rfl, .tup (.cons (.v _) (.cons hru .nil))⟩
end
end
end Go.E2
