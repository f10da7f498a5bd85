/-
  The engine, second make: abstract values, frozen cells, local heap, states.
  Conditions: none beyond the premises of each rule.
-/
import Derived.WalkKit
import Derived.WalkSpells
import Derived.WalkLawsBesides
import Derived.Deep.Quiet
import Derived.Deep.Draws
import Derived.Deep.LoopGhost
import Derived.Sort.LoopGhostIn
import Derived.RangeFuncNested
import Derived.RangeFuncBound
import Derived.RangeFuncCalls
import Derived.RangeFuncLeaves
import Derived.Deep.RegionHeld3
import Derived.Laws.CopyRow
import Derived.IntWalk
import Derived.Laws.StructEq
import Derived.Laws.Small
import Derived.Maps.AppendAt
namespace Go.E2
open Go.RowKit

/-! abstract values -/
inductive AV where
  | v (x : Value)
  | agg (cs : List AV)
  | tup (cs : List AV)
  | sl (k : Nat) (xs : List AV)
  | fp (cs : List AV) (off : Nat)
  | fn (f : Go.Fn) (caps : List AV)
  | opt (b : Bool) (a : AV)
def AV.cells : AV → List AV
  | .agg cs => cs
  | a => [a]
abbrev I (n : Int) : AV := .v (.int .i64 n)
abbrev B (b : Bool) : AV := .v (.bool b)
/-- the frozen cells: block, offset -/
abbrev Cells := Nat → Nat → Option Value
def Cells.le (H H' : Cells) : Prop := ∀ b o u, H b o = some u → H' b o = some u
theorem Cells.le_refl (H : Cells) : H.le H := fun _ _ _ h => h
theorem Cells.le.trans {A B C : Cells} (h : A.le B) (k : B.le C) : A.le C := fun b o u x => k b o u (h b o u x)

mutual
inductive Rel (H : Cells) : AV → Value → Prop
  | v (x : Value) : Rel H (.v x) x
  | agg {cs : List AV} {vs : List Value} (h : RelL H cs vs) : Rel H (.agg cs) (.agg vs.toArray)
  | tup {cs : List AV} {vs : List Value} (h : RelL H cs vs) : Rel H (.tup cs) (.tuple vs.toArray)
  | sl0 {k : Nat} {A : Option Addr} {cap : Nat} (h : cap ≤ maxLen) : Rel H (.sl k []) (.slice A 0 cap)
  | sl {k b off cap : Nat} {xs : List AV} (h : RelE H k b off xs) (h1 : xs.length ≤ cap) (h2 : cap ≤ maxLen) : Rel H (.sl k xs) (.slice (some ⟨b, off, none⟩) xs.length cap)
  | fp {cs : List AV} {b o off : Nat} (h : RelC H b o cs) : Rel H (.fp cs off) (.pointer (some ⟨b, o + off, none⟩))
  | fn {f : Go.Fn} {caps : List AV} {vs : List Value} (h : RelL H caps vs) : Rel H (.fn f caps) (.func f #[] vs.toArray)
  | opt {b : Bool} {a : AV} {v : Value} (h : b = true → Rel H a v) (h' : b = false → v = undef) : Rel H (.opt b a) v
inductive RelL (H : Cells) : List AV → List Value → Prop
  | nil : RelL H [] []
  | cons {c : AV} {v : Value} {cs : List AV} {vs : List Value} (h : Rel H c v) (t : RelL H cs vs) : RelL H (c :: cs) (v :: vs)
inductive RelC (H : Cells) : Nat → Nat → List AV → Prop
  | nil {b o : Nat} : RelC H b o []
  | cons {b o : Nat} {c : AV} {u : Value} {cs : List AV} (hu : H b o = some u) (h : Rel H c u) (t : RelC H b (o + 1) cs) : RelC H b o (c :: cs)
inductive RelE (H : Cells) : Nat → Nat → Nat → List AV → Prop
  | nil {k b o : Nat} : RelE H k b o []
  | cons {k b o : Nat} {x : AV} {xs : List AV} (hk : x.cells.length = k) (h : RelC H b o x.cells) (t : RelE H k b (o + k) xs) : RelE H k b o (x :: xs)
end
mutual
theorem Rel.mono {H H' : Cells} (hl : H.le H') : ∀ {a : AV} {v : Value}, Rel H a v → Rel H' a v
  | _, _, .v x => .v x
  | _, _, .agg h => .agg (RelL.mono hl h)
  | _, _, .tup h => .tup (RelL.mono hl h)
  | _, _, .sl0 h => .sl0 h
  | _, _, .sl h h1 h2 => .sl (RelE.mono hl h) h1 h2
  | _, _, .fp h => .fp (RelC.mono hl h)
  | _, _, .fn h => .fn (RelL.mono hl h)
  | _, _, .opt h h' => .opt (fun e => Rel.mono hl (h e)) h'
theorem RelL.mono {H H' : Cells} (hl : H.le H') : ∀ {a : List AV} {v : List Value}, RelL H a v → RelL H' a v
  | _, _, .nil => .nil
  | _, _, .cons h t => .cons (Rel.mono hl h) (RelL.mono hl t)
theorem RelC.mono {H H' : Cells} (hl : H.le H') : ∀ {b o : Nat} {a : List AV}, RelC H b o a → RelC H' b o a
  | _, _, _, .nil => .nil
  | _, _, _, .cons hu h t => .cons (hl _ _ _ hu) (Rel.mono hl h) (RelC.mono hl t)
theorem RelE.mono {H H' : Cells} (hl : H.le H') : ∀ {k b o : Nat} {a : List AV}, RelE H k b o a → RelE H' k b o a
  | _, _, _, _, .nil => .nil
  | _, _, _, _, .cons hk h t => .cons hk (RelC.mono hl h) (RelE.mono hl t)
end
theorem Rel.inv {H : Cells} {x v : Value} (h : Rel H (.v x) v) : v = x := by cases h; rfl
theorem Rel.inv_opt {H : Cells} {b : Bool} {a : AV} {v : Value} (h : Rel H (.opt b a) v) : (b = true → Rel H a v) ∧ (b = false → v = undef) := by cases h with | opt h h' => exact ⟨h, h'⟩
theorem Rel.inv_agg {H : Cells} {cs : List AV} {v : Value} (h : Rel H (.agg cs) v) : ∃ vs, v = .agg vs.toArray ∧ RelL H cs vs := by cases h with | agg h => exact ⟨_, rfl, h⟩
theorem Rel.inv_tup {H : Cells} {cs : List AV} {v : Value} (h : Rel H (.tup cs) v) : ∃ vs, v = .tuple vs.toArray ∧ RelL H cs vs := by cases h with | tup h => exact ⟨_, rfl, h⟩
theorem Rel.inv_fp {H : Cells} {cs : List AV} {off : Nat} {v : Value} (h : Rel H (.fp cs off) v) : ∃ b o, v = .pointer (some ⟨b, o + off, none⟩) ∧ RelC H b o cs := by cases h with | fp h => exact ⟨_, _, rfl, h⟩
theorem Rel.inv_fn {H : Cells} {f : Go.Fn} {cs : List AV} {v : Value} (h : Rel H (.fn f cs) v) : ∃ vs, v = .func f #[] vs.toArray ∧ RelL H cs vs := by cases h with | fn h => exact ⟨_, rfl, h⟩
theorem Rel.inv_sl {H : Cells} {k : Nat} {xs : List AV} {v : Value} (h : Rel H (.sl k xs) v) : ∃ A cap, v = .slice A xs.length cap ∧ xs.length ≤ cap ∧ cap ≤ maxLen ∧ (xs ≠ [] → ∃ b off, A = some ⟨b, off, none⟩ ∧ RelE H k b off xs) := by
  cases h with
  | sl0 h => exact ⟨_, _, rfl, by simp, h, fun h => absurd rfl h⟩
  | sl h h1 h2 => exact ⟨_, _, rfl, h1, h2, fun _ => ⟨_, _, rfl, h⟩⟩
theorem RelL.len {H : Cells} : ∀ {cs : List AV} {vs : List Value}, RelL H cs vs → cs.length = vs.length
  | _, _, .nil => rfl
  | _, _, .cons _ t => by simp [RelL.len t]
theorem RelL.get {H : Cells} : ∀ {cs : List AV} {vs : List Value} {i : Nat} {c : AV}, RelL H cs vs → cs[i]? = some c → ∃ v, vs[i]? = some v ∧ Rel H c v
  | _, _, 0, _, .cons h _, hi => by simp only [List.getElem?_cons_zero, Option.some.injEq] at hi; subst hi; exact ⟨_, rfl, h⟩
  | _, _, _ + 1, _, .cons _ t, hi => by simp only [List.getElem?_cons_succ] at hi ⊢; exact RelL.get t hi
theorem RelL.get' {H : Cells} : ∀ {cs : List AV} {vs : List Value} {i : Nat} {v : Value}, RelL H cs vs → vs[i]? = some v → ∃ c, cs[i]? = some c ∧ Rel H c v
  | _, _, 0, _, .cons h _, hi => by simp only [List.getElem?_cons_zero, Option.some.injEq] at hi; subst hi; exact ⟨_, rfl, h⟩
  | _, _, _ + 1, _, .cons _ t, hi => by simp only [List.getElem?_cons_succ] at hi ⊢; exact RelL.get' t hi
theorem RelL.append {H : Cells} : ∀ {cs ds : List AV} {us vs : List Value}, RelL H cs us → RelL H ds vs → RelL H (cs ++ ds) (us ++ vs)
  | _, _, _, _, .nil, k => k
  | _, _, _, _, .cons h t, k => .cons h (RelL.append t k)
theorem RelL.take {H : Cells} : ∀ {cs : List AV} {vs : List Value} (n : Nat), RelL H cs vs → RelL H (cs.take n) (vs.take n)
  | _, _, 0, _ => by simpa using RelL.nil
  | _, _, _ + 1, .nil => by simpa using RelL.nil
  | _, _, n + 1, .cons h t => by simpa using RelL.cons h (RelL.take n t)
theorem RelL.drop {H : Cells} : ∀ {cs : List AV} {vs : List Value} (n : Nat), RelL H cs vs → RelL H (cs.drop n) (vs.drop n)
  | _, _, 0, h => by simpa using h
  | _, _, _ + 1, .nil => by simpa using RelL.nil
  | _, _, n + 1, .cons _ t => by simpa using RelL.drop n t
theorem RelL.set {H : Cells} {c : AV} {v : Value} (hv : Rel H c v) : ∀ {cs : List AV} {vs : List Value} (n : Nat), RelL H cs vs → RelL H (cs.set n c) (vs.set n v)
  | _, _, _, .nil => by simpa using RelL.nil
  | _, _, 0, .cons _ t => .cons hv t
  | _, _, n + 1, .cons h t => .cons h (RelL.set hv n t)
theorem RelC.get {H : Cells} : ∀ {b o : Nat} {cs : List AV} {i : Nat} {c : AV}, RelC H b o cs → cs[i]? = some c → ∃ u, H b (o + i) = some u ∧ Rel H c u
  | _, _, _, 0, _, .cons hu h _, hi => by simp only [List.getElem?_cons_zero, Option.some.injEq] at hi; subst hi; exact ⟨_, hu, h⟩
  | _, o, _, i + 1, _, .cons _ _ t, hi => by
    simp only [List.getElem?_cons_succ] at hi
    obtain ⟨u, h1, h2⟩ := RelC.get t hi
    exact ⟨u, by rw [show o + (i + 1) = o + 1 + i by omega]; exact h1, h2⟩
theorem RelC.of {H : Cells} : ∀ {b o : Nat} {cs : List AV} {us : List Value}, RelL H cs us → (∀ i u, us[i]? = some u → H b (o + i) = some u) → RelC H b o cs
  | _, _, _, _, .nil, _ => .nil
  | _, o, _, _, .cons h t, k => .cons (k 0 _ rfl) h (RelC.of t fun i u hi => by rw [show o + 1 + i = o + (i + 1) by omega]; exact k (i + 1) u (by simpa using hi))
theorem RelC.list {H : Cells} : ∀ {b o : Nat} {cs : List AV}, RelC H b o cs → ∃ us, RelL H cs us ∧ ∀ i u, us[i]? = some u → H b (o + i) = some u
  | _, _, _, .nil => ⟨[], .nil, by simp⟩
  | _, o, _, .cons hu h t => by
    obtain ⟨us, h1, h2⟩ := RelC.list t
    refine ⟨_ :: us, .cons h h1, fun i u hi => ?_⟩
    cases i with
    | zero => simp only [List.getElem?_cons_zero, Option.some.injEq] at hi; subst hi; exact hu
    | succ i => rw [show o + (i + 1) = o + 1 + i by omega]; exact h2 i u (by simpa using hi)
theorem RelE.get {H : Cells} : ∀ {k b o : Nat} {xs : List AV} {i : Nat} {x : AV}, RelE H k b o xs → xs[i]? = some x → x.cells.length = k ∧ RelC H b (o + i * k) x.cells
  | _, _, _, _, 0, _, .cons hk h _, hi => by simp only [List.getElem?_cons_zero, Option.some.injEq] at hi; subst hi; exact ⟨hk, by simpa using h⟩
  | k, _, o, _, i + 1, _, .cons _ _ t, hi => by
    simp only [List.getElem?_cons_succ] at hi
    have := RelE.get t hi
    rw [show o + (i + 1) * k = o + k + i * k by rw [Nat.succ_mul]; omega]
    exact this
theorem RelE.of {H : Cells} {k : Nat} : ∀ {b o : Nat} {xs : List AV}, (∀ x ∈ xs, x.cells.length = k) → RelC H b o (xs.flatMap AV.cells) → RelE H k b o xs
  | _, _, [], _, _ => .nil
  | b, o, x :: xs, hk, h => by
    have hx := hk x (by simp)
    have hsplit : ∀ {cs ds : List AV} {o : Nat}, RelC H b o (cs ++ ds) → RelC H b o cs ∧ RelC H b (o + cs.length) ds := by
      intro cs
      induction cs with
      | nil => intro ds o h; exact ⟨.nil, by simpa using h⟩
      | cons c cs ih =>
        intro ds o h
        cases h with
        | cons hu h t =>
          obtain ⟨h1, h2⟩ := ih t
          exact ⟨.cons hu h h1, by rw [List.length_cons, show o + (cs.length + 1) = o + 1 + cs.length by omega]; exact h2⟩
    rw [List.flatMap_cons] at h
    obtain ⟨h1, h2⟩ := hsplit h
    rw [hx] at h2
    exact .cons hx h1 (RelE.of (fun y hy => hk y (by simp [hy])) h2)
theorem RelE.drop {H : Cells} : ∀ {k b o : Nat} {xs : List AV} (i : Nat), RelE H k b o xs → RelE H k b (o + i * k) (xs.drop i)
  | _, _, _, _, 0, h => by simpa using h
  | _, _, _, _, _ + 1, .nil => by simpa using RelE.nil
  | k, _, o, _, i + 1, .cons _ _ t => by
    rw [show o + (i + 1) * k = o + k + i * k by rw [Nat.succ_mul]; omega]
    simpa using RelE.drop i t
theorem RelE.take {H : Cells} : ∀ {k b o : Nat} {xs : List AV} (i : Nat), RelE H k b o xs → RelE H k b o (xs.take i)
  | _, _, _, _, 0, _ => by simpa using RelE.nil
  | _, _, _, _, _ + 1, .nil => by simpa using RelE.nil
  | _, _, _, _, i + 1, .cons hk h t => by simpa using RelE.cons hk h (RelE.take i t)

/-! frames -/
/-- the number of slots, the deferred calls (marks of ranges over functions), the round that the code runs in -/
structure Cfg where
  n : Nat
  ds : List Deferred
  ro : Option Nat
abbrev Fr := List (Nat × AV)
def look : Fr → Nat → Option AV
  | [], _ => none
  | (d, v) :: F, t => match Nat.beq d t with | true => some v | false => look F t
def ofV : Value → AV
  | .agg cs => .agg (cs.toList.map .v)
  | x => .v x
def oget (n : Cfg) (F : Fr) : Operand → Option AV
  | .tmp t => match Nat.blt t n.n with | true => look F t | false => none
  | .const v => match v with
    | .agg cs => some (.agg (cs.toList.map .v))
    | x => some (.v x)
  | .global g => some (.v (.pointer (some ⟨g, 0, none⟩)))
  | .func f => some (.v (.func (.func f) #[] #[]))
def putF : Option Tmp → AV → Fr → Fr
  | some d, v, F => (d, v) :: F
  | none, _, F => F
theorem look_cons_self (d : Nat) (v : AV) (F : Fr) : look ((d, v) :: F) d = some v := by
  simp [look]
theorem look_cons_ne {d t : Nat} (v : AV) (F : Fr) (h : d ≠ t) : look ((d, v) :: F) t = look F t := by
  have : Nat.beq d t = false := by
    cases hb : Nat.beq d t with
    | false => rfl
    | true => exact absurd (Nat.eq_of_beq_eq_true hb) h
  simp [look, this]
structure Fit (H : Cells) (n : Cfg) (F : Fr) (a : Act) : Prop where
  ds : a.defers = n.ds
  size : a.tmps.size = n.n
  rel : ∀ s x, look F s = some x → s < n.n → ∃ v, a.tmps[s]? = some v ∧ Rel H x v
theorem Fit.mono {H H' : Cells} {n : Cfg} {F : Fr} {a : Act} (h : Fit H n F a) (hl : H.le H') : Fit H' n F a :=
  ⟨h.ds, h.size, fun s x hs hn => let ⟨v, h1, h2⟩ := h.rel s x hs hn; ⟨v, h1, h2.mono hl⟩⟩
theorem rel_ofV (H : Cells) (v : Value) : Rel H (ofV v) v := by
  cases v with
  | agg cs =>
    have : ∀ l : List Value, RelL H (l.map .v) l := fun l => by
      induction l with
      | nil => exact .nil
      | cons a l ih => exact .cons (.v a) ih
    have := Rel.agg (this cs.toList)
    simpa [ofV] using this
  | _ => exact .v _
theorem Fit.eval {H : Cells} {n : Cfg} {F : Fr} {a : Act} {x : Operand} {av : AV} (h : Fit H n F a) (hx : oget n F x = some av) : Rel H av (a.eval x) := by
  cases x with
  | tmp t =>
    simp only [oget] at hx
    split at hx
    · rename_i hb
      have hlt : t < n.n := by simpa [Nat.blt_eq] using hb
      obtain ⟨v, h1, h2⟩ := h.rel t av hx hlt
      simpa [Act.eval, Array.getD_eq_getD_getElem?, h1] using h2
    · cases hx
  | const x =>
    have : av = ofV x := by
      simp only [oget] at hx
      split at hx
      · simp only [Option.some.injEq] at hx; rw [← hx]; rfl
      · rename_i h
        simp only [Option.some.injEq] at hx
        rw [← hx]
        unfold ofV
        split
        · exact absurd rfl (h _)
        · rfl
    subst this
    exact rel_ofV H x
  | global g => simp only [oget, Option.some.injEq] at hx; subst hx; exact .v _
  | func f => simp only [oget, Option.some.injEq] at hx; subst hx; exact .v _
theorem Fit.put {H : Cells} {n : Cfg} {F : Fr} {a : Act} {av : AV} {v : Value} (h : Fit H n F a) (hr : Rel H av v) (d : Option Tmp) : Fit H n (putF d av F) (a.put d v) := by
  cases d with
  | none => exact h
  | some d =>
    refine ⟨h.ds, by simp [Act.put, h.size], fun s x hs hn => ?_⟩
    by_cases hd : d = s
    · subst hd
      simp only [putF, look_cons_self, Option.some.injEq] at hs
      subst hs
      refine ⟨v, ?_, hr⟩
      simp [Act.put, h.size, hn]
    · simp only [putF, look_cons_ne _ _ hd] at hs
      obtain ⟨u, h1, h2⟩ := h.rel s x hs hn
      refine ⟨u, ?_, h2⟩
      simp only [Act.put, Array.getElem?_setIfInBounds]
      rw [if_neg hd]; exact h1
/-- a frame that says less -/
theorem Fit.weak {H : Cells} {n : Cfg} {F G : Fr} {a : Act} (h : Fit H n F a) (hs : ∀ s x, look G s = some x → look F s = some x) : Fit H n G a :=
  ⟨h.ds, h.size, fun s x hx hn => h.rel s x (hs s x hx) hn⟩

/-! local heap -/
inductive Ent where
  | blk (g : Nat) (t : TypeId) (z : Bool) (cs : List AV)
  | row (v : Value) (t : TypeId) (size m : Nat) (z : Bool) (xs : List AV)
  | obj (g : Nat) (o : Obj)
  | mp (g : Nat) (kvs : List (Value × AV))
def mkEs : Nat → List Value → List Value → List MapEntry
  | i, k :: ks, u :: us => ⟨k, u, i⟩ :: mkEs (i + 1) ks us
  | _, _, _ => []
def Ent.own : Ent → Option Nat
  | .blk g _ _ _ => some g
  | .obj g _ => some g
  | .mp g _ => some g
  | .row v _ _ _ _ _ => v.ownBlock
def HIn (H : Cells) (w : World) : Prop := ∀ b o u, H b o = some u → w.cell? ⟨b, o, none⟩ = some u
def Ent.In (H : Cells) (base : Nat) (w : World) : Ent → Prop
  | .blk g t z cs => base ≤ g ∧ ∃ us, w.heap[g]? = some (.cells us.toArray t (0, 0)) ∧ RelL H cs us ∧ (z = false → ∀ o, H g o = none) ∧ (z = true → ∀ o u, us[o]? = some u → H g o = some u)
  | .row v t size m z xs => ∃ us, w.ownsRow base t size v xs.length us ∧ RelL H (xs.flatMap AV.cells) us ∧ (∀ x ∈ xs, x.cells.length = size) ∧ m ≤ xs.length ∧ (∀ g, v.ownBlock = some g → ∀ o, m * size ≤ o → H g o = none) ∧ (z = true → ∀ g, v.ownBlock = some g → ∀ o u, us[o]? = some u → H g o = some u)
  | .obj g o => base ≤ g ∧ w.heap[g]? = some o ∧ ∀ o, H g o = none
  | .mp g kvs => base ≤ g ∧ ∃ us, w.heap[g]? = some (.map (mkEs 0 (kvs.map (·.1)) us).toArray kvs.length) ∧ RelL H (kvs.map (·.2)) us ∧ ∀ o, H g o = none
structure Ctx where
  w0 : World
  H0 : Cells
structure St (c : Ctx) (H : Cells) (w : World) (L : List Ent) : Prop where
  below : Below c.w0.heap.size c.w0 w
  le : c.H0.le H
  hin : HIn H w
  old : ∀ b o u, H b o = some u → b < c.w0.heap.size → c.H0 b o = some u
  holds : ∀ e ∈ L, e.In H c.w0.heap.size w
  apart : L.Pairwise fun a b => ∀ g, a.own = some g → b.own ≠ some g
  dr : c.w0.drawn ≤ w.drawn
theorem HIn.lt {H : Cells} {w : World} (h : HIn H w) {b o : Nat} {u : Value} (hu : H b o = some u) : b < w.heap.size := by
  have := h b o u hu
  simp only [World.cell?] at this
  rcases Nat.lt_or_ge b w.heap.size with hlt | hge
  · exact hlt
  · rw [Array.getElem?_eq_none hge] at this; simp at this
theorem blk_lt {w : World} {g : Nat} {o : Obj} (h : w.heap[g]? = some o) : g < w.heap.size := (Array.getElem?_eq_some_iff.1 h).1
theorem Ent.own_ge {H : Cells} {base : Nat} {w : World} {e : Ent} (h : e.In H base w) {g : Nat} (hg : e.own = some g) : base ≤ g ∧ g < w.heap.size := by
  cases e with
  | blk g' t z cs =>
    simp only [Ent.own, Option.some.injEq] at hg
    subst hg
    obtain ⟨h1, us, h2, _⟩ := h
    exact ⟨h1, blk_lt h2⟩
  | obj g' o =>
    simp only [Ent.own, Option.some.injEq] at hg
    subst hg
    exact ⟨h.1, blk_lt h.2.1⟩
  | mp g' kvs =>
    simp only [Ent.own, Option.some.injEq] at hg
    subst hg
    obtain ⟨h1, us, h2, _⟩ := h
    exact ⟨h1, blk_lt h2⟩
  | row v t size m z xs =>
    obtain ⟨us, hr, _⟩ := h
    rcases hr.2 with ⟨hv, _⟩ | ⟨g', cap, cur, hv, hb, hh, _⟩
    · subst hv; simp [Ent.own, Value.ownBlock] at hg
    · subst hv
      simp only [Ent.own, Value.ownBlock, Option.some.injEq] at hg
      subst hg
      exact ⟨hb, blk_lt hh⟩
/-- An entry looks at its own block alone; the frozen cells may grow elsewhere. -/
theorem Ent.In.keep {H H' : Cells} {base base' : Nat} {w w' : World} {e : Ent} (h : e.In H base w) (hb : base' ≤ base) (hl : H.le H') (hk : ∀ g, e.own = some g → w'.heap[g]? = w.heap[g]?) (hn : ∀ g, e.own = some g → ∀ o, H g o = none → H' g o = none) : e.In H' base' w' := by
  cases e with
  | blk g t z cs =>
    obtain ⟨h1, us, h2, h3, h4, h5⟩ := h
    exact ⟨Nat.le_trans hb h1, us, (hk g rfl).trans h2, h3.mono hl, fun hz o => hn g rfl o (h4 hz o), fun hz o u hu => hl _ _ _ (h5 hz o u hu)⟩
  | obj g o => exact ⟨Nat.le_trans hb h.1, (hk g rfl).trans h.2.1, fun o => hn g rfl o (h.2.2 o)⟩
  | mp g kvs =>
    obtain ⟨h1, us, h2, h3, h4⟩ := h
    exact ⟨Nat.le_trans hb h1, us, (hk g rfl).trans h2, h3.mono hl, fun o => hn g rfl o (h4 o)⟩
  | row v t size m z xs =>
    obtain ⟨us, hr, h2, h3, h4, h5, h6⟩ := h
    refine ⟨us, ⟨hr.1, ?_⟩, h2.mono hl, h3, h4, fun g hg o ho => hn g hg o (h5 g hg o ho), fun hz g hg o u hu => hl _ _ _ (h6 hz g hg o u hu)⟩
    rcases hr.2 with h2 | ⟨g', cap, cur, hv, hbb, hh, r⟩
    · exact .inl h2
    · refine .inr ⟨g', cap, cur, hv, Nat.le_trans hb hbb, ?_, r⟩
      rw [hk g' (by subst hv; rfl)]
      exact hh
theorem St.refl {w : World} {H : Cells} (h : HIn H w) : St ⟨w, H⟩ H w [] := ⟨Below.refl _ _, Cells.le_refl _, h, fun _ _ _ h _ => h, by simp, by simp, Nat.le_refl _⟩
section
variable {c : Ctx} {H : Cells} {w : World} {L : List Ent}
theorem St.size (h : St c H w L) : c.w0.heap.size ≤ w.heap.size := h.below.size
theorem hin_heap {w w' : World} (h : HIn H w) (hb : ∀ b o u, H b o = some u → w'.heap[b]? = w.heap[b]?) : HIn H w' := fun b o u hu => by
  rw [← h b o u hu]
  simp [World.cell?, hb b o u hu]
theorem St.drew (h : St c H w L) : St c H { w with drawn := w.drawn + 1 } L :=
  ⟨h.below.trans ⟨rfl, rfl, rfl, Nat.le_refl _, fun _ _ => rfl⟩, h.le, hin_heap h.hin (fun _ _ _ _ => rfl), h.old, fun e he => (h.holds e he).keep (Nat.le_refl _) (Cells.le_refl _) (fun _ _ => rfl) (fun _ _ _ h => h), h.apart, Nat.le_succ_of_le h.dr⟩
/-- a call that left all that was there. -/
theorem St.trans {H' : Cells} {w' : World} {E : List Ent} (h : St c H w L) (k : St ⟨w, H⟩ H' w' E) : St c H' w' (E ++ L) := by
  have hL : ∀ e ∈ L, ∀ g, e.own = some g → g < w.heap.size := fun e he g hg => (Ent.own_ge (h.holds e he) hg).2
  refine ⟨h.below.trans (k.below.mono h.size), h.le.trans k.le, k.hin, ?_, ?_, ?_, Nat.le_trans h.dr k.dr⟩
  · intro b o u hu hb
    exact h.old b o u (k.old b o u hu (Nat.lt_of_lt_of_le hb h.size)) hb
  · intro e he
    rcases List.mem_append.1 he with he | he
    · exact (k.holds e he).keep h.size (Cells.le_refl _) (fun _ _ => rfl) (fun _ _ _ h => h)
    · refine (h.holds e he).keep (Nat.le_refl _) k.le (fun g hg => k.below.block g (hL e he g hg)) (fun g hg o ho => ?_)
      cases hu : H' g o with
      | none => rfl
      | some u => have := k.old g o u hu (hL e he g hg); simp only at this; rw [ho] at this; cases this
  · rw [List.pairwise_append]
    refine ⟨k.apart, h.apart, fun a ha b hb g hga hgb => ?_⟩
    have h1 := (Ent.own_ge (k.holds a ha) hga).1
    have h2 := hL b hb g hgb
    simp only at h1
    omega
theorem St.sub {L' : List Ent} (h : St c H w L) (hs : L'.Sublist L) : St c H w L' :=
  ⟨h.below, h.le, h.hin, h.old, fun e he => h.holds e (hs.subset he), h.apart.sublist hs, h.dr⟩
theorem St.perm {L' : List Ent} (h : St c H w L) (hp : L.Perm L') : St c H w L' :=
  ⟨h.below, h.le, h.hin, h.old, fun e he => h.holds e (hp.mem_iff.2 he), (hp.pairwise_iff (fun {_a _b} hab g hb ha => hab g ha hb)).1 h.apart, h.dr⟩
theorem St.new {w : World} (hi : HIn H w) (t : TypeId) {cs : List AV} {us : List Value} (hr : RelL H cs us) : St ⟨w, H⟩ H (w.alloc (.cells us.toArray t)) [.blk w.heap.size t false cs] :=
  ⟨(Below.refl _ _).alloc (Nat.le_refl _) _, Cells.le_refl _, hin_heap hi (fun b o u hu => Below.heap_alloc _ _ _ (hi.lt hu)), fun _ _ _ h _ => h, by
    intro e he
    simp only [List.mem_singleton] at he
    subst he
    refine ⟨Nat.le_refl _, us, heap_alloc_new w _, hr, fun _ o => ?_, fun h => by cases h⟩
    cases hu : H w.heap.size o with
    | none => rfl
    | some u => have := hi.lt hu; omega, by simp, Nat.le_refl _⟩
theorem St.newObj {w : World} (hi : HIn H w) (o : Obj) : St ⟨w, H⟩ H (w.alloc o) [.obj w.heap.size o] :=
  ⟨(Below.refl _ _).alloc (Nat.le_refl _) _, Cells.le_refl _, hin_heap hi (fun b o u hu => Below.heap_alloc _ _ _ (hi.lt hu)), fun _ _ _ h _ => h, by
    intro e he
    simp only [List.mem_singleton] at he
    subst he
    refine ⟨Nat.le_refl _, heap_alloc_new w _, fun o => ?_⟩
    cases hu : H w.heap.size o with
    | none => rfl
    | some u => have := hi.lt hu; omega, by simp, Nat.le_refl _⟩
/-- entry i turned into another one over a block of its own; the frozen cells as they were -/
theorem St.turn {w' : World} {i : Nat} {e e' : Ent} (h : St c H w L) (hL : L[i]? = some e) (hin : HIn H w') (he' : e'.In H c.w0.heap.size w') (hg : w.grownBy w' e.own) (ho : e'.own = e.own ∨ e'.own = some w.heap.size ∨ e'.own = none) (hdr : w.drawn ≤ w'.drawn) : St c H w' (L.set i e') := by
  have hmem := List.mem_of_getElem? hL
  have hil : i < L.length := (List.getElem?_eq_some_iff.1 hL).1
  have hi' : L[i] = e := (List.getElem?_eq_some_iff.1 hL).2
  have hp := List.pairwise_iff_getElem.1 h.apart
  have hne : ∀ j (hj : j < L.length), j ≠ i → ∀ g, (L[j]).own = some g → e.own ≠ some g := fun j hj hji g h1 h2 => by
    rcases Nat.lt_or_ge i j with hlt | hge
    · exact hp i j hil hj hlt g (by rw [hi']; exact h2) h1
    · exact hp j i hj hil (by omega) g h1 (by rw [hi']; exact h2)
  have hlt : ∀ j (hj : j < L.length) g, (L[j]).own = some g → g < w.heap.size := fun j hj g hg' => (Ent.own_ge (h.holds _ (List.getElem_mem hj)) hg').2
  refine ⟨h.below.grown hg h.size (fun k hk => (Ent.own_ge (h.holds e hmem) hk).1), h.le, hin, h.old, ?_, ?_, Nat.le_trans h.dr hdr⟩
  · intro x hx
    rw [List.mem_iff_getElem] at hx
    obtain ⟨j, hj, hx⟩ := hx
    have hj' : j < L.length := by simpa using hj
    rw [List.getElem_set] at hx
    split at hx
    · subst hx; exact he'
    · rename_i hij
      subst hx
      exact (h.holds _ (List.getElem_mem hj')).keep (Nat.le_refl _) (Cells.le_refl _) (fun g hg' => hg.block g (hlt j hj' g hg') (fun hh => hne j hj' (fun e => hij e.symm) g hg' hh.symm)) (fun _ _ _ h => h)
  · refine List.pairwise_iff_getElem.2 fun a b ha hb hab g h1 h2 => ?_
    have ha' : a < L.length := by simpa using ha
    have hb' : b < L.length := by simpa using hb
    rw [List.getElem_set] at h1 h2
    split at h1
    · rename_i hia
      rw [if_neg (by omega)] at h2
      rcases ho with ho | ho | ho
      · rw [ho] at h1; exact hne b hb' (by omega) g h2 h1
      · rw [ho] at h1
        have := hlt b hb' g h2
        injection h1 with h1
        omega
      · rw [ho] at h1; cases h1
    · split at h2
      · rcases ho with ho | ho | ho
        · rw [ho] at h2; exact hne a ha' (by omega) g h1 h2
        · rw [ho] at h2
          have := hlt a ha' g h1
          injection h2 with h2
          omega
        · rw [ho] at h2; cases h2
      · exact hp a b ha' hb' hab g h1 h2
/-- frozen cells grow in the block of entry i alone -/
theorem St.more {H' : Cells} {i : Nat} {e e' : Ent} (h : St c H w L) (hL : L[i]? = some e) (hl : H.le H') (hin : HIn H' w) (hn : ∀ b o, e.own ≠ some b → H' b o = H b o) (he' : e'.In H' c.w0.heap.size w) (ho : e'.own = e.own) : St c H' w (L.set i e') := by
  have hmem := List.mem_of_getElem? hL
  have hil : i < L.length := (List.getElem?_eq_some_iff.1 hL).1
  have hi' : L[i] = e := (List.getElem?_eq_some_iff.1 hL).2
  have hp := List.pairwise_iff_getElem.1 h.apart
  have hne : ∀ j (hj : j < L.length), j ≠ i → ∀ g, (L[j]).own = some g → e.own ≠ some g := fun j hj hji g h1 h2 => by
    rcases Nat.lt_or_ge i j with hlt | hge
    · exact hp i j hil hj hlt g (by rw [hi']; exact h2) h1
    · exact hp j i hj hil (by omega) g h1 (by rw [hi']; exact h2)
  have hown : ∀ j (hj : j < (L.set i e').length), ((L.set i e')[j]).own = (L[j]'(by simpa using hj)).own := fun j hj => by
    rw [List.getElem_set]
    split
    · rename_i hij
      subst hij
      rw [hi', ho]
    · rfl
  refine ⟨h.below, h.le.trans hl, hin, fun b o u hu hb => ?_, ?_, ?_, h.dr⟩
  · refine h.old b o u ?_ hb
    rw [← hn b o (fun hh => by have := (Ent.own_ge (h.holds e hmem) hh).1; omega)]
    exact hu
  · intro x hx
    rw [List.mem_iff_getElem] at hx
    obtain ⟨j, hj, hx⟩ := hx
    have hj' : j < L.length := by simpa using hj
    rw [List.getElem_set] at hx
    split at hx
    · subst hx; exact he'
    · rename_i hij
      subst hx
      exact (h.holds _ (List.getElem_mem hj')).keep (Nat.le_refl _) hl (fun _ _ => rfl) (fun g hg o hno => by rw [hn g o (hne j hj' (fun e => hij e.symm) g hg)]; exact hno)
  · refine List.pairwise_iff_getElem.2 fun a b ha hb hab g' h1 h2 => ?_
    rw [hown] at h1 h2
    exact hp a b _ _ hab g' h1 h2
/-! freezing -/
theorem St.freezeBlk {i g : Nat} {t : TypeId} {z : Bool} {cs : List AV} (h : St c H w L) (hL : L[i]? = some (.blk g t z cs)) :
    ∃ H', H.le H' ∧ St c H' w (L.set i (.blk g t true cs)) ∧ RelC H' g 0 cs := by
  obtain ⟨h1, us, h2, h3, h4, h5⟩ := h.holds _ (List.mem_of_getElem? hL)
  have hcell : ∀ o, w.cell? ⟨g, o, none⟩ = us[o]? := fun o => by simp [World.cell?, h2]
  let H' : Cells := fun b o => if b = g then us[o]? else H b o
  have hle : H.le H' := fun b o u hu => by
    by_cases hb : b = g
    · subst hb
      simp only [H', if_true]
      rw [← hcell, h.hin b o u hu]
    · simp only [H', hb, if_false]; exact hu
  have hin : HIn H' w := fun b o u hu => by
    by_cases hb : b = g
    · subst hb
      simp only [H', if_true] at hu
      rw [hcell, hu]
    · simp only [H', hb, if_false] at hu; exact h.hin b o u hu
  refine ⟨H', hle, h.more hL hle hin (fun b o hb => ?_) ⟨h1, us, h2, h3.mono hle, (fun h => by cases h), fun _ o u hu => by simp [H', hu]⟩ rfl, ?_⟩
  · have : b ≠ g := fun e => hb (by rw [e]; rfl)
    simp [H', this]
  · exact RelC.of (h3.mono hle) (fun i u hu => by simp [H', hu])
theorem rel_row {v : Value} {t : TypeId} {size : Nat} {xs : List AV} {us : List Value} (hr : w.ownsRow c.w0.heap.size t size v xs.length us) (h2 : RelL H (xs.flatMap AV.cells) us) (h3 : ∀ x ∈ xs, x.cells.length = size)
    (h6 : ∀ g, v.ownBlock = some g → ∀ o u, us[o]? = some u → H g o = some u) : Rel H (.sl size xs) v := by
  rcases hr.2 with ⟨hv, hn⟩ | ⟨g, cap, cur, hv, hb, hh, q1, q2, _⟩
  · have : xs = [] := List.eq_nil_of_length_eq_zero hn
    subst this; subst hv
    exact .sl0 (by unfold maxLen; omega)
  · subst hv
    exact .sl (RelE.of h3 (RelC.of h2 (fun i u hu => by rw [Nat.zero_add]; exact h6 g rfl i u hu))) q1 q2
theorem St.freezeRow {i : Nat} {v : Value} {t : TypeId} {size m : Nat} {z : Bool} {xs : List AV} (h : St c H w L) (hL : L[i]? = some (.row v t size m z xs)) :
    ∃ H', H.le H' ∧ St c H' w (L.set i (.row v t size xs.length true xs)) := by
  obtain ⟨us, hr, h2, h3, h4, h5, h6⟩ := h.holds _ (List.mem_of_getElem? hL)
  rcases hr.2 with ⟨hv, hn⟩ | ⟨g, cap, cur, hv, hb, hh, q1, q2, q3, q4⟩
  · have hx : xs = [] := List.eq_nil_of_length_eq_zero hn
    subst hx
    have hm : m = 0 := by simpa using h4
    subst hm
    refine ⟨H, Cells.le_refl _, h.more hL (Cells.le_refl _) h.hin (fun _ _ _ => rfl) ⟨us, hr, h2, h3, Nat.le_refl _, h5, fun _ g hg => ?_⟩ rfl⟩
    rw [hv] at hg
    simp [Value.ownBlock] at hg
  · have hown : v.ownBlock = some g := by rw [hv]; rfl
    have hcell : ∀ o u, us[o]? = some u → w.cell? ⟨g, o, none⟩ = some u := fun o u hu => by
      rw [← q4, List.getElem?_take] at hu
      split at hu
      · simpa [World.cell?, hh] using hu
      · cases hu
    let H' : Cells := fun b o => if b = g ∧ o < us.length then us[o]? else H b o
    have hle : H.le H' := fun b o u hu => by
      by_cases hb : b = g ∧ o < us.length
      · simp only [H', hb, and_self, if_true]
        obtain ⟨rfl, ho⟩ := hb
        have h1 := h.hin b o u hu
        have h2 := hcell o us[o] (by simp [ho])
        rw [h1] at h2
        simp only [Option.some.injEq] at h2
        simp [ho, h2]
      · simp only [H', hb, if_false]; exact hu
    have hin : HIn H' w := fun b o u hu => by
      by_cases hb : b = g ∧ o < us.length
      · simp only [H', hb, and_self, if_true] at hu
        obtain ⟨rfl, _⟩ := hb
        exact hcell o u hu
      · simp only [H', hb, if_false] at hu; exact h.hin b o u hu
    refine ⟨H', hle, h.more hL hle hin (fun b o hb => ?_) ⟨us, hr, h2.mono hle, h3, Nat.le_refl _, fun g' hg' o ho => ?_, fun _ g' hg' o u hu => ?_⟩ rfl⟩
    · have : b ≠ g := fun e => hb (by rw [e]; exact hown)
      simp [H', this]
    · rw [hown] at hg'
      cases hg'
      have : ¬ o < us.length := by rw [hr.1]; omega
      simp only [H', this, and_false, if_false]
      refine h5 g hown o (Nat.le_trans (Nat.mul_le_mul_right _ h4) ho)
    · rw [hown] at hg'
      cases hg'
      have : o < us.length := (List.getElem?_eq_some_iff.1 hu).1
      simp only [H', this, and_self, if_true]
      exact hu
/-- what a frozen entry vouches for -/
theorem St.relRow {i : Nat} {v : Value} {t : TypeId} {size m : Nat} {xs : List AV} (h : St c H w L) (hL : L[i]? = some (.row v t size m true xs)) : Rel H (.sl size xs) v := by
  obtain ⟨us, hr, h2, h3, _, _, h6⟩ := h.holds _ (List.mem_of_getElem? hL)
  exact rel_row hr h2 h3 (fun g hg o u hu => h6 rfl g hg o u hu)
theorem St.relBlk {i g : Nat} {t : TypeId} {cs : List AV} (h : St c H w L) (hL : L[i]? = some (.blk g t true cs)) : RelC H g 0 cs := by
  obtain ⟨_, us, _, h3, _, h5⟩ := h.holds _ (List.mem_of_getElem? hL)
  exact RelC.of h3 (fun i u hu => by rw [Nat.zero_add]; exact h5 rfl i u hu)
/-! a can be seen as b -/
mutual
inductive Sb (L : List Ent) : AV → AV → Prop
  | refl (a : AV) : Sb L a a
  | row {v : Value} {t : TypeId} {k m : Nat} {xs : List AV} (i : Nat) (h : L[i]? = some (.row v t k m true xs)) : Sb L (.v v) (.sl k xs)
  | ptr {g off : Nat} {t : TypeId} {cs : List AV} (i : Nat) (h : L[i]? = some (.blk g t true cs)) : Sb L (.v (.pointer (some ⟨g, off, none⟩))) (.fp cs off)
  | agg {cs ds : List AV} (h : SbL L cs ds) : Sb L (.agg cs) (.agg ds)
  | tup {cs ds : List AV} (h : SbL L cs ds) : Sb L (.tup cs) (.tup ds)
  | fn {f : Go.Fn} {cs ds : List AV} (h : SbL L cs ds) : Sb L (.fn f cs) (.fn f ds)
  | fn0 {f : Go.Fn} : Sb L (.v (.func f #[] #[])) (.fn f [])
  | nil {k : Nat} : Sb L (.v (.slice none 0 0)) (.sl k [])
inductive SbL (L : List Ent) : List AV → List AV → Prop
  | nil : SbL L [] []
  | cons {a b : AV} {as bs : List AV} (h : Sb L a b) (t : SbL L as bs) : SbL L (a :: as) (b :: bs)
end
mutual
theorem Sb.rel (h : St c H w L) : ∀ {a b : AV} {v : Value}, Sb L a b → Rel H a v → Rel H b v
  | _, _, _, .refl _, r => r
  | _, _, _, .row i hi, r => by cases r; exact h.relRow hi
  | _, _, _, .ptr (g := g) (off := off) (cs := cs) i hi, r => by
    cases r
    have := Rel.fp (off := off) (h.relBlk hi)
    rwa [Nat.zero_add] at this
  | _, _, _, .agg q, r => by cases r with | agg r => exact .agg (SbL.rel h q r)
  | _, _, _, .tup q, r => by cases r with | tup r => exact .tup (SbL.rel h q r)
  | _, _, _, .fn q, r => by cases r with | fn r => exact .fn (SbL.rel h q r)
  | _, _, _, .fn0, r => by cases r; exact .fn .nil
  | _, _, _, .nil, r => by cases r; exact .sl0 (by unfold maxLen; omega)
theorem SbL.rel (h : St c H w L) : ∀ {a b : List AV} {v : List Value}, SbL L a b → RelL H a v → RelL H b v
  | _, _, _, .nil, r => r
  | _, _, _, .cons q t, .cons r u => .cons (Sb.rel h q r) (SbL.rel h t u)
end
theorem SbL.refl : ∀ as : List AV, SbL L as as
  | [] => .nil
  | a :: as => .cons (.refl a) (SbL.refl as)
end
end Go.E2
