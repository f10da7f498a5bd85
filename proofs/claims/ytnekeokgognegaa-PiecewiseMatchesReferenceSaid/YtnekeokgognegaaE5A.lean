/-
  The engine, texts A, B, C, D.
  Conditions: none beyond the premises of each rule.
-/
import Derived.WalkKit
import Derived.WalkSpells
import Derived.WalkLawsBesides
import Derived.Deep.Quiet
import Derived.Deep.Draws
import Derived.Deep.LoopGhost
import Derived.Sort.LoopGhostIn
import Derived.RangeFuncNested
import Derived.RangeFuncBound
import Derived.RangeFuncCalls
import Derived.RangeFuncLeaves
import Derived.Deep.RegionHeld3
import Derived.Laws.CopyRow
import Derived.IntWalk
import Derived.Laws.StructEq
import Derived.Laws.Small
import Derived.Maps.AppendAt
namespace Go.E2
open Go.RowKit

/-! abstract values -/
inductive AV where
  | v (x : Value)
  | agg (cs : List AV)
  | tup (cs : List AV)
  | sl (k : Nat) (xs : List AV)
  | fp (cs : List AV) (off : Nat)
  | fn (f : Go.Fn) (caps : List AV)
  | opt (b : Bool) (a : AV)
def AV.cells : AV → List AV
  | .agg cs => cs
  | a => [a]
abbrev I (n : Int) : AV := .v (.int .i64 n)
abbrev B (b : Bool) : AV := .v (.bool b)
/-- the frozen cells: block, offset -/
abbrev Cells := Nat → Nat → Option Value
def Cells.le (H H' : Cells) : Prop := ∀ b o u, H b o = some u → H' b o = some u
theorem Cells.le_refl (H : Cells) : H.le H := fun _ _ _ h => h
theorem Cells.le.trans {A B C : Cells} (h : A.le B) (k : B.le C) : A.le C := fun b o u x => k b o u (h b o u x)

mutual
inductive Rel (H : Cells) : AV → Value → Prop
  | v (x : Value) : Rel H (.v x) x
  | agg {cs : List AV} {vs : List Value} (h : RelL H cs vs) : Rel H (.agg cs) (.agg vs.toArray)
  | tup {cs : List AV} {vs : List Value} (h : RelL H cs vs) : Rel H (.tup cs) (.tuple vs.toArray)
  | sl0 {k : Nat} {A : Option Addr} {cap : Nat} (h : cap ≤ maxLen) : Rel H (.sl k []) (.slice A 0 cap)
  | sl {k b off cap : Nat} {xs : List AV} (h : RelE H k b off xs) (h1 : xs.length ≤ cap) (h2 : cap ≤ maxLen) : Rel H (.sl k xs) (.slice (some ⟨b, off, none⟩) xs.length cap)
  | fp {cs : List AV} {b o off : Nat} (h : RelC H b o cs) : Rel H (.fp cs off) (.pointer (some ⟨b, o + off, none⟩))
  | fn {f : Go.Fn} {caps : List AV} {vs : List Value} (h : RelL H caps vs) : Rel H (.fn f caps) (.func f #[] vs.toArray)
  | opt {b : Bool} {a : AV} {v : Value} (h : b = true → Rel H a v) (h' : b = false → v = undef) : Rel H (.opt b a) v
inductive RelL (H : Cells) : List AV → List Value → Prop
  | nil : RelL H [] []
  | cons {c : AV} {v : Value} {cs : List AV} {vs : List Value} (h : Rel H c v) (t : RelL H cs vs) : RelL H (c :: cs) (v :: vs)
inductive RelC (H : Cells) : Nat → Nat → List AV → Prop
  | nil {b o : Nat} : RelC H b o []
  | cons {b o : Nat} {c : AV} {u : Value} {cs : List AV} (hu : H b o = some u) (h : Rel H c u) (t : RelC H b (o + 1) cs) : RelC H b o (c :: cs)
inductive RelE (H : Cells) : Nat → Nat → Nat → List AV → Prop
  | nil {k b o : Nat} : RelE H k b o []
  | cons {k b o : Nat} {x : AV} {xs : List AV} (hk : x.cells.length = k) (h : RelC H b o x.cells) (t : RelE H k b (o + k) xs) : RelE H k b o (x :: xs)
end
mutual
theorem Rel.mono {H H' : Cells} (hl : H.le H') : ∀ {a : AV} {v : Value}, Rel H a v → Rel H' a v
  | _, _, .v x => .v x
  | _, _, .agg h => .agg (RelL.mono hl h)
  | _, _, .tup h => .tup (RelL.mono hl h)
  | _, _, .sl0 h => .sl0 h
  | _, _, .sl h h1 h2 => .sl (RelE.mono hl h) h1 h2
  | _, _, .fp h => .fp (RelC.mono hl h)
  | _, _, .fn h => .fn (RelL.mono hl h)
  | _, _, .opt h h' => .opt (fun e => Rel.mono hl (h e)) h'
theorem RelL.mono {H H' : Cells} (hl : H.le H') : ∀ {a : List AV} {v : List Value}, RelL H a v → RelL H' a v
  | _, _, .nil => .nil
  | _, _, .cons h t => .cons (Rel.mono hl h) (RelL.mono hl t)
theorem RelC.mono {H H' : Cells} (hl : H.le H') : ∀ {b o : Nat} {a : List AV}, RelC H b o a → RelC H' b o a
  | _, _, _, .nil => .nil
  | _, _, _, .cons hu h t => .cons (hl _ _ _ hu) (Rel.mono hl h) (RelC.mono hl t)
theorem RelE.mono {H H' : Cells} (hl : H.le H') : ∀ {k b o : Nat} {a : List AV}, RelE H k b o a → RelE H' k b o a
  | _, _, _, _, .nil => .nil
  | _, _, _, _, .cons hk h t => .cons hk (RelC.mono hl h) (RelE.mono hl t)
end
theorem Rel.inv {H : Cells} {x v : Value} (h : Rel H (.v x) v) : v = x := by cases h; rfl
theorem Rel.inv_opt {H : Cells} {b : Bool} {a : AV} {v : Value} (h : Rel H (.opt b a) v) : (b = true → Rel H a v) ∧ (b = false → v = undef) := by cases h with | opt h h' => exact ⟨h, h'⟩
theorem Rel.inv_agg {H : Cells} {cs : List AV} {v : Value} (h : Rel H (.agg cs) v) : ∃ vs, v = .agg vs.toArray ∧ RelL H cs vs := by cases h with | agg h => exact ⟨_, rfl, h⟩
theorem Rel.inv_tup {H : Cells} {cs : List AV} {v : Value} (h : Rel H (.tup cs) v) : ∃ vs, v = .tuple vs.toArray ∧ RelL H cs vs := by cases h with | tup h => exact ⟨_, rfl, h⟩
theorem Rel.inv_fp {H : Cells} {cs : List AV} {off : Nat} {v : Value} (h : Rel H (.fp cs off) v) : ∃ b o, v = .pointer (some ⟨b, o + off, none⟩) ∧ RelC H b o cs := by cases h with | fp h => exact ⟨_, _, rfl, h⟩
theorem Rel.inv_fn {H : Cells} {f : Go.Fn} {cs : List AV} {v : Value} (h : Rel H (.fn f cs) v) : ∃ vs, v = .func f #[] vs.toArray ∧ RelL H cs vs := by cases h with | fn h => exact ⟨_, rfl, h⟩
theorem Rel.inv_sl {H : Cells} {k : Nat} {xs : List AV} {v : Value} (h : Rel H (.sl k xs) v) : ∃ A cap, v = .slice A xs.length cap ∧ xs.length ≤ cap ∧ cap ≤ maxLen ∧ (xs ≠ [] → ∃ b off, A = some ⟨b, off, none⟩ ∧ RelE H k b off xs) := by
  cases h with
  | sl0 h => exact ⟨_, _, rfl, by simp, h, fun h => absurd rfl h⟩
  | sl h h1 h2 => exact ⟨_, _, rfl, h1, h2, fun _ => ⟨_, _, rfl, h⟩⟩
theorem RelL.len {H : Cells} : ∀ {cs : List AV} {vs : List Value}, RelL H cs vs → cs.length = vs.length
  | _, _, .nil => rfl
  | _, _, .cons _ t => by simp [RelL.len t]
theorem RelL.get {H : Cells} : ∀ {cs : List AV} {vs : List Value} {i : Nat} {c : AV}, RelL H cs vs → cs[i]? = some c → ∃ v, vs[i]? = some v ∧ Rel H c v
  | _, _, 0, _, .cons h _, hi => by simp only [List.getElem?_cons_zero, Option.some.injEq] at hi; subst hi; exact ⟨_, rfl, h⟩
  | _, _, _ + 1, _, .cons _ t, hi => by simp only [List.getElem?_cons_succ] at hi ⊢; exact RelL.get t hi
theorem RelL.append {H : Cells} : ∀ {cs ds : List AV} {us vs : List Value}, RelL H cs us → RelL H ds vs → RelL H (cs ++ ds) (us ++ vs)
  | _, _, _, _, .nil, k => k
  | _, _, _, _, .cons h t, k => .cons h (RelL.append t k)
theorem RelL.take {H : Cells} : ∀ {cs : List AV} {vs : List Value} (n : Nat), RelL H cs vs → RelL H (cs.take n) (vs.take n)
  | _, _, 0, _ => by simpa using RelL.nil
  | _, _, _ + 1, .nil => by simpa using RelL.nil
  | _, _, n + 1, .cons h t => by simpa using RelL.cons h (RelL.take n t)
theorem RelL.drop {H : Cells} : ∀ {cs : List AV} {vs : List Value} (n : Nat), RelL H cs vs → RelL H (cs.drop n) (vs.drop n)
  | _, _, 0, h => by simpa using h
  | _, _, _ + 1, .nil => by simpa using RelL.nil
  | _, _, n + 1, .cons _ t => by simpa using RelL.drop n t
theorem RelL.set {H : Cells} {c : AV} {v : Value} (hv : Rel H c v) : ∀ {cs : List AV} {vs : List Value} (n : Nat), RelL H cs vs → RelL H (cs.set n c) (vs.set n v)
  | _, _, _, .nil => by simpa using RelL.nil
  | _, _, 0, .cons _ t => .cons hv t
  | _, _, n + 1, .cons h t => .cons h (RelL.set hv n t)
theorem RelC.get {H : Cells} : ∀ {b o : Nat} {cs : List AV} {i : Nat} {c : AV}, RelC H b o cs → cs[i]? = some c → ∃ u, H b (o + i) = some u ∧ Rel H c u
  | _, _, _, 0, _, .cons hu h _, hi => by simp only [List.getElem?_cons_zero, Option.some.injEq] at hi; subst hi; exact ⟨_, hu, h⟩
  | _, o, _, i + 1, _, .cons _ _ t, hi => by
    simp only [List.getElem?_cons_succ] at hi
    obtain ⟨u, h1, h2⟩ := RelC.get t hi
    exact ⟨u, by rw [show o + (i + 1) = o + 1 + i by omega]; exact h1, h2⟩
theorem RelC.of {H : Cells} : ∀ {b o : Nat} {cs : List AV} {us : List Value}, RelL H cs us → (∀ i u, us[i]? = some u → H b (o + i) = some u) → RelC H b o cs
  | _, _, _, _, .nil, _ => .nil
  | _, o, _, _, .cons h t, k => .cons (k 0 _ rfl) h (RelC.of t fun i u hi => by rw [show o + 1 + i = o + (i + 1) by omega]; exact k (i + 1) u (by simpa using hi))
theorem RelC.list {H : Cells} : ∀ {b o : Nat} {cs : List AV}, RelC H b o cs → ∃ us, RelL H cs us ∧ ∀ i u, us[i]? = some u → H b (o + i) = some u
  | _, _, _, .nil => ⟨[], .nil, by simp⟩
  | _, o, _, .cons hu h t => by
    obtain ⟨us, h1, h2⟩ := RelC.list t
    refine ⟨_ :: us, .cons h h1, fun i u hi => ?_⟩
    cases i with
    | zero => simp only [List.getElem?_cons_zero, Option.some.injEq] at hi; subst hi; exact hu
    | succ i => rw [show o + (i + 1) = o + 1 + i by omega]; exact h2 i u (by simpa using hi)
theorem RelE.get {H : Cells} : ∀ {k b o : Nat} {xs : List AV} {i : Nat} {x : AV}, RelE H k b o xs → xs[i]? = some x → x.cells.length = k ∧ RelC H b (o + i * k) x.cells
  | _, _, _, _, 0, _, .cons hk h _, hi => by simp only [List.getElem?_cons_zero, Option.some.injEq] at hi; subst hi; exact ⟨hk, by simpa using h⟩
  | k, _, o, _, i + 1, _, .cons _ _ t, hi => by
    simp only [List.getElem?_cons_succ] at hi
    have := RelE.get t hi
    rw [show o + (i + 1) * k = o + k + i * k by rw [Nat.succ_mul]; omega]
    exact this
theorem RelE.of {H : Cells} {k : Nat} : ∀ {b o : Nat} {xs : List AV}, (∀ x ∈ xs, x.cells.length = k) → RelC H b o (xs.flatMap AV.cells) → RelE H k b o xs
  | _, _, [], _, _ => .nil
  | b, o, x :: xs, hk, h => by
    have hx := hk x (by simp)
    have hsplit : ∀ {cs ds : List AV} {o : Nat}, RelC H b o (cs ++ ds) → RelC H b o cs ∧ RelC H b (o + cs.length) ds := by
      intro cs
      induction cs with
      | nil => intro ds o h; exact ⟨.nil, by simpa using h⟩
      | cons c cs ih =>
        intro ds o h
        cases h with
        | cons hu h t =>
          obtain ⟨h1, h2⟩ := ih t
          exact ⟨.cons hu h h1, by rw [List.length_cons, show o + (cs.length + 1) = o + 1 + cs.length by omega]; exact h2⟩
    rw [List.flatMap_cons] at h
    obtain ⟨h1, h2⟩ := hsplit h
    rw [hx] at h2
    exact .cons hx h1 (RelE.of (fun y hy => hk y (by simp [hy])) h2)
theorem RelE.drop {H : Cells} : ∀ {k b o : Nat} {xs : List AV} (i : Nat), RelE H k b o xs → RelE H k b (o + i * k) (xs.drop i)
  | _, _, _, _, 0, h => by simpa using h
  | _, _, _, _, _ + 1, .nil => by simpa using RelE.nil
  | k, _, o, _, i + 1, .cons _ _ t => by
    rw [show o + (i + 1) * k = o + k + i * k by rw [Nat.succ_mul]; omega]
    simpa using RelE.drop i t
theorem RelE.take {H : Cells} : ∀ {k b o : Nat} {xs : List AV} (i : Nat), RelE H k b o xs → RelE H k b o (xs.take i)
  | _, _, _, _, 0, _ => by simpa using RelE.nil
  | _, _, _, _, _ + 1, .nil => by simpa using RelE.nil
  | _, _, _, _, i + 1, .cons hk h t => by simpa using RelE.cons hk h (RelE.take i t)

/-! frames -/
/-- the number of slots, the deferred calls (marks of ranges over functions), the round that the code runs in -/
structure Cfg where
  n : Nat
  ds : List Deferred
  ro : Option Nat
abbrev Fr := List (Nat × AV)
def look : Fr → Nat → Option AV
  | [], _ => none
  | (d, v) :: F, t => match Nat.beq d t with | true => some v | false => look F t
def ofV : Value → AV
  | .agg cs => .agg (cs.toList.map .v)
  | x => .v x
def oget (n : Cfg) (F : Fr) : Operand → Option AV
  | .tmp t => match Nat.blt t n.n with | true => look F t | false => none
  | .const v => match v with
    | .agg cs => some (.agg (cs.toList.map .v))
    | x => some (.v x)
  | .global g => some (.v (.pointer (some ⟨g, 0, none⟩)))
  | .func f => some (.v (.func (.func f) #[] #[]))
def putF : Option Tmp → AV → Fr → Fr
  | some d, v, F => (d, v) :: F
  | none, _, F => F
theorem look_cons_self (d : Nat) (v : AV) (F : Fr) : look ((d, v) :: F) d = some v := by
  simp [look]
theorem look_cons_ne {d t : Nat} (v : AV) (F : Fr) (h : d ≠ t) : look ((d, v) :: F) t = look F t := by
  have : Nat.beq d t = false := by
    cases hb : Nat.beq d t with
    | false => rfl
    | true => exact absurd (Nat.eq_of_beq_eq_true hb) h
  simp [look, this]
structure Fit (H : Cells) (n : Cfg) (F : Fr) (a : Act) : Prop where
  ds : a.defers = n.ds
  size : a.tmps.size = n.n
  rel : ∀ s x, look F s = some x → s < n.n → ∃ v, a.tmps[s]? = some v ∧ Rel H x v
theorem Fit.mono {H H' : Cells} {n : Cfg} {F : Fr} {a : Act} (h : Fit H n F a) (hl : H.le H') : Fit H' n F a :=
  ⟨h.ds, h.size, fun s x hs hn => let ⟨v, h1, h2⟩ := h.rel s x hs hn; ⟨v, h1, h2.mono hl⟩⟩
theorem rel_ofV (H : Cells) (v : Value) : Rel H (ofV v) v := by
  cases v with
  | agg cs =>
    have : ∀ l : List Value, RelL H (l.map .v) l := fun l => by
      induction l with
      | nil => exact .nil
      | cons a l ih => exact .cons (.v a) ih
    have := Rel.agg (this cs.toList)
    simpa [ofV] using this
  | _ => exact .v _
theorem Fit.eval {H : Cells} {n : Cfg} {F : Fr} {a : Act} {x : Operand} {av : AV} (h : Fit H n F a) (hx : oget n F x = some av) : Rel H av (a.eval x) := by
  cases x with
  | tmp t =>
    simp only [oget] at hx
    split at hx
    · rename_i hb
      have hlt : t < n.n := by simpa [Nat.blt_eq] using hb
      obtain ⟨v, h1, h2⟩ := h.rel t av hx hlt
      simpa [Act.eval, Array.getD_eq_getD_getElem?, h1] using h2
    · cases hx
  | const x =>
    have : av = ofV x := by
      simp only [oget] at hx
      split at hx
      · simp only [Option.some.injEq] at hx; rw [← hx]; rfl
      · rename_i h
        simp only [Option.some.injEq] at hx
        rw [← hx]
        unfold ofV
        split
        · exact absurd rfl (h _)
        · rfl
    subst this
    exact rel_ofV H x
  | global g => simp only [oget, Option.some.injEq] at hx; subst hx; exact .v _
  | func f => simp only [oget, Option.some.injEq] at hx; subst hx; exact .v _
theorem Fit.put {H : Cells} {n : Cfg} {F : Fr} {a : Act} {av : AV} {v : Value} (h : Fit H n F a) (hr : Rel H av v) (d : Option Tmp) : Fit H n (putF d av F) (a.put d v) := by
  cases d with
  | none => exact h
  | some d =>
    refine ⟨h.ds, by simp [Act.put, h.size], fun s x hs hn => ?_⟩
    by_cases hd : d = s
    · subst hd
      simp only [putF, look_cons_self, Option.some.injEq] at hs
      subst hs
      refine ⟨v, ?_, hr⟩
      simp [Act.put, h.size, hn]
    · simp only [putF, look_cons_ne _ _ hd] at hs
      obtain ⟨u, h1, h2⟩ := h.rel s x hs hn
      refine ⟨u, ?_, h2⟩
      simp only [Act.put, Array.getElem?_setIfInBounds]
      rw [if_neg hd]; exact h1
/-- a frame that says less -/
theorem Fit.weak {H : Cells} {n : Cfg} {F G : Fr} {a : Act} (h : Fit H n F a) (hs : ∀ s x, look G s = some x → look F s = some x) : Fit H n G a :=
  ⟨h.ds, h.size, fun s x hx hn => h.rel s x (hs s x hx) hn⟩

/-! local heap -/
inductive Ent where
  | blk (g : Nat) (t : TypeId) (z : Bool) (cs : List AV)
  | row (v : Value) (t : TypeId) (size m : Nat) (z : Bool) (xs : List AV)
  | obj (g : Nat) (o : Obj)
  | mp (g : Nat) (kvs : List (Value × AV))
def mkEs : Nat → List Value → List Value → List MapEntry
  | i, k :: ks, u :: us => ⟨k, u, i⟩ :: mkEs (i + 1) ks us
  | _, _, _ => []
def Ent.own : Ent → Option Nat
  | .blk g _ _ _ => some g
  | .obj g _ => some g
  | .mp g _ => some g
  | .row v _ _ _ _ _ => v.ownBlock
def HIn (H : Cells) (w : World) : Prop := ∀ b o u, H b o = some u → w.cell? ⟨b, o, none⟩ = some u
def Ent.In (H : Cells) (base : Nat) (w : World) : Ent → Prop
  | .blk g t z cs => base ≤ g ∧ ∃ us, w.heap[g]? = some (.cells us.toArray t (0, 0)) ∧ RelL H cs us ∧ (z = false → ∀ o, H g o = none) ∧ (z = true → ∀ o u, us[o]? = some u → H g o = some u)
  | .row v t size m z xs => ∃ us, w.ownsRow base t size v xs.length us ∧ RelL H (xs.flatMap AV.cells) us ∧ (∀ x ∈ xs, x.cells.length = size) ∧ m ≤ xs.length ∧ (∀ g, v.ownBlock = some g → ∀ o, m * size ≤ o → H g o = none) ∧ (z = true → ∀ g, v.ownBlock = some g → ∀ o u, us[o]? = some u → H g o = some u)
  | .obj g o => base ≤ g ∧ w.heap[g]? = some o ∧ ∀ o, H g o = none
  | .mp g kvs => base ≤ g ∧ ∃ us, w.heap[g]? = some (.map (mkEs 0 (kvs.map (·.1)) us).toArray kvs.length) ∧ RelL H (kvs.map (·.2)) us ∧ ∀ o, H g o = none
structure Ctx where
  w0 : World
  H0 : Cells
structure St (c : Ctx) (H : Cells) (w : World) (L : List Ent) : Prop where
  below : Below c.w0.heap.size c.w0 w
  le : c.H0.le H
  hin : HIn H w
  old : ∀ b o u, H b o = some u → b < c.w0.heap.size → c.H0 b o = some u
  holds : ∀ e ∈ L, e.In H c.w0.heap.size w
  apart : L.Pairwise fun a b => ∀ g, a.own = some g → b.own ≠ some g
  dr : c.w0.drawn ≤ w.drawn
theorem HIn.lt {H : Cells} {w : World} (h : HIn H w) {b o : Nat} {u : Value} (hu : H b o = some u) : b < w.heap.size := by
  have := h b o u hu
  simp only [World.cell?] at this
  rcases Nat.lt_or_ge b w.heap.size with hlt | hge
  · exact hlt
  · rw [Array.getElem?_eq_none hge] at this; simp at this
theorem blk_lt {w : World} {g : Nat} {o : Obj} (h : w.heap[g]? = some o) : g < w.heap.size := (Array.getElem?_eq_some_iff.1 h).1
theorem Ent.own_ge {H : Cells} {base : Nat} {w : World} {e : Ent} (h : e.In H base w) {g : Nat} (hg : e.own = some g) : base ≤ g ∧ g < w.heap.size := by
  cases e with
  | blk g' t z cs =>
    simp only [Ent.own, Option.some.injEq] at hg
    subst hg
    obtain ⟨h1, us, h2, _⟩ := h
    exact ⟨h1, blk_lt h2⟩
  | obj g' o =>
    simp only [Ent.own, Option.some.injEq] at hg
    subst hg
    exact ⟨h.1, blk_lt h.2.1⟩
  | mp g' kvs =>
    simp only [Ent.own, Option.some.injEq] at hg
    subst hg
    obtain ⟨h1, us, h2, _⟩ := h
    exact ⟨h1, blk_lt h2⟩
  | row v t size m z xs =>
    obtain ⟨us, hr, _⟩ := h
    rcases hr.2 with ⟨hv, _⟩ | ⟨g', cap, cur, hv, hb, hh, _⟩
    · subst hv; simp [Ent.own, Value.ownBlock] at hg
    · subst hv
      simp only [Ent.own, Value.ownBlock, Option.some.injEq] at hg
      subst hg
      exact ⟨hb, blk_lt hh⟩
/-- An entry looks at its own block alone; the frozen cells may grow elsewhere. -/
theorem Ent.In.keep {H H' : Cells} {base base' : Nat} {w w' : World} {e : Ent} (h : e.In H base w) (hb : base' ≤ base) (hl : H.le H') (hk : ∀ g, e.own = some g → w'.heap[g]? = w.heap[g]?) (hn : ∀ g, e.own = some g → ∀ o, H g o = none → H' g o = none) : e.In H' base' w' := by
  cases e with
  | blk g t z cs =>
    obtain ⟨h1, us, h2, h3, h4, h5⟩ := h
    exact ⟨Nat.le_trans hb h1, us, (hk g rfl).trans h2, h3.mono hl, fun hz o => hn g rfl o (h4 hz o), fun hz o u hu => hl _ _ _ (h5 hz o u hu)⟩
  | obj g o => exact ⟨Nat.le_trans hb h.1, (hk g rfl).trans h.2.1, fun o => hn g rfl o (h.2.2 o)⟩
  | mp g kvs =>
    obtain ⟨h1, us, h2, h3, h4⟩ := h
    exact ⟨Nat.le_trans hb h1, us, (hk g rfl).trans h2, h3.mono hl, fun o => hn g rfl o (h4 o)⟩
  | row v t size m z xs =>
    obtain ⟨us, hr, h2, h3, h4, h5, h6⟩ := h
    refine ⟨us, ⟨hr.1, ?_⟩, h2.mono hl, h3, h4, fun g hg o ho => hn g hg o (h5 g hg o ho), fun hz g hg o u hu => hl _ _ _ (h6 hz g hg o u hu)⟩
    rcases hr.2 with h2 | ⟨g', cap, cur, hv, hbb, hh, r⟩
    · exact .inl h2
    · refine .inr ⟨g', cap, cur, hv, Nat.le_trans hb hbb, ?_, r⟩
      rw [hk g' (by subst hv; rfl)]
      exact hh
theorem St.refl {w : World} {H : Cells} (h : HIn H w) : St ⟨w, H⟩ H w [] := ⟨Below.refl _ _, Cells.le_refl _, h, fun _ _ _ h _ => h, by simp, by simp, Nat.le_refl _⟩
section
variable {c : Ctx} {H : Cells} {w : World} {L : List Ent}
theorem St.size (h : St c H w L) : c.w0.heap.size ≤ w.heap.size := h.below.size
theorem hin_heap {w w' : World} (h : HIn H w) (hb : ∀ b o u, H b o = some u → w'.heap[b]? = w.heap[b]?) : HIn H w' := fun b o u hu => by
  rw [← h b o u hu]
  simp [World.cell?, hb b o u hu]
theorem St.drew (h : St c H w L) : St c H { w with drawn := w.drawn + 1 } L :=
  ⟨h.below.trans ⟨rfl, rfl, rfl, Nat.le_refl _, fun _ _ => rfl⟩, h.le, hin_heap h.hin (fun _ _ _ _ => rfl), h.old, fun e he => (h.holds e he).keep (Nat.le_refl _) (Cells.le_refl _) (fun _ _ => rfl) (fun _ _ _ h => h), h.apart, Nat.le_succ_of_le h.dr⟩
/-- a call that left all that was there. -/
theorem St.trans {H' : Cells} {w' : World} {E : List Ent} (h : St c H w L) (k : St ⟨w, H⟩ H' w' E) : St c H' w' (E ++ L) := by
  have hL : ∀ e ∈ L, ∀ g, e.own = some g → g < w.heap.size := fun e he g hg => (Ent.own_ge (h.holds e he) hg).2
  refine ⟨h.below.trans (k.below.mono h.size), h.le.trans k.le, k.hin, ?_, ?_, ?_, Nat.le_trans h.dr k.dr⟩
  · intro b o u hu hb
    exact h.old b o u (k.old b o u hu (Nat.lt_of_lt_of_le hb h.size)) hb
  · intro e he
    rcases List.mem_append.1 he with he | he
    · exact (k.holds e he).keep h.size (Cells.le_refl _) (fun _ _ => rfl) (fun _ _ _ h => h)
    · refine (h.holds e he).keep (Nat.le_refl _) k.le (fun g hg => k.below.block g (hL e he g hg)) (fun g hg o ho => ?_)
      cases hu : H' g o with
      | none => rfl
      | some u => have := k.old g o u hu (hL e he g hg); simp only at this; rw [ho] at this; cases this
  · rw [List.pairwise_append]
    refine ⟨k.apart, h.apart, fun a ha b hb g hga hgb => ?_⟩
    have h1 := (Ent.own_ge (k.holds a ha) hga).1
    have h2 := hL b hb g hgb
    simp only at h1
    omega
theorem St.sub {L' : List Ent} (h : St c H w L) (hs : L'.Sublist L) : St c H w L' :=
  ⟨h.below, h.le, h.hin, h.old, fun e he => h.holds e (hs.subset he), h.apart.sublist hs, h.dr⟩
theorem St.perm {L' : List Ent} (h : St c H w L) (hp : L.Perm L') : St c H w L' :=
  ⟨h.below, h.le, h.hin, h.old, fun e he => h.holds e (hp.mem_iff.2 he), (hp.pairwise_iff (fun {_a _b} hab g hb ha => hab g ha hb)).1 h.apart, h.dr⟩
theorem St.new {w : World} (hi : HIn H w) (t : TypeId) {cs : List AV} {us : List Value} (hr : RelL H cs us) : St ⟨w, H⟩ H (w.alloc (.cells us.toArray t)) [.blk w.heap.size t false cs] :=
  ⟨(Below.refl _ _).alloc (Nat.le_refl _) _, Cells.le_refl _, hin_heap hi (fun b o u hu => Below.heap_alloc _ _ _ (hi.lt hu)), fun _ _ _ h _ => h, by
    intro e he
    simp only [List.mem_singleton] at he
    subst he
    refine ⟨Nat.le_refl _, us, heap_alloc_new w _, hr, fun _ o => ?_, fun h => by cases h⟩
    cases hu : H w.heap.size o with
    | none => rfl
    | some u => have := hi.lt hu; omega, by simp, Nat.le_refl _⟩
theorem St.newObj {w : World} (hi : HIn H w) (o : Obj) : St ⟨w, H⟩ H (w.alloc o) [.obj w.heap.size o] :=
  ⟨(Below.refl _ _).alloc (Nat.le_refl _) _, Cells.le_refl _, hin_heap hi (fun b o u hu => Below.heap_alloc _ _ _ (hi.lt hu)), fun _ _ _ h _ => h, by
    intro e he
    simp only [List.mem_singleton] at he
    subst he
    refine ⟨Nat.le_refl _, heap_alloc_new w _, fun o => ?_⟩
    cases hu : H w.heap.size o with
    | none => rfl
    | some u => have := hi.lt hu; omega, by simp, Nat.le_refl _⟩
/-- entry i turned into another one over a block of its own; the frozen cells as they were -/
theorem St.turn {w' : World} {i : Nat} {e e' : Ent} (h : St c H w L) (hL : L[i]? = some e) (hin : HIn H w') (he' : e'.In H c.w0.heap.size w') (hg : w.grownBy w' e.own) (ho : e'.own = e.own ∨ e'.own = some w.heap.size ∨ e'.own = none) (hdr : w.drawn ≤ w'.drawn) : St c H w' (L.set i e') := by
  have hmem := List.mem_of_getElem? hL
  have hil : i < L.length := (List.getElem?_eq_some_iff.1 hL).1
  have hi' : L[i] = e := (List.getElem?_eq_some_iff.1 hL).2
  have hp := List.pairwise_iff_getElem.1 h.apart
  have hne : ∀ j (hj : j < L.length), j ≠ i → ∀ g, (L[j]).own = some g → e.own ≠ some g := fun j hj hji g h1 h2 => by
    rcases Nat.lt_or_ge i j with hlt | hge
    · exact hp i j hil hj hlt g (by rw [hi']; exact h2) h1
    · exact hp j i hj hil (by omega) g h1 (by rw [hi']; exact h2)
  have hlt : ∀ j (hj : j < L.length) g, (L[j]).own = some g → g < w.heap.size := fun j hj g hg' => (Ent.own_ge (h.holds _ (List.getElem_mem hj)) hg').2
  refine ⟨h.below.grown hg h.size (fun k hk => (Ent.own_ge (h.holds e hmem) hk).1), h.le, hin, h.old, ?_, ?_, Nat.le_trans h.dr hdr⟩
  · intro x hx
    rw [List.mem_iff_getElem] at hx
    obtain ⟨j, hj, hx⟩ := hx
    have hj' : j < L.length := by simpa using hj
    rw [List.getElem_set] at hx
    split at hx
    · subst hx; exact he'
    · rename_i hij
      subst hx
      exact (h.holds _ (List.getElem_mem hj')).keep (Nat.le_refl _) (Cells.le_refl _) (fun g hg' => hg.block g (hlt j hj' g hg') (fun hh => hne j hj' (fun e => hij e.symm) g hg' hh.symm)) (fun _ _ _ h => h)
  · refine List.pairwise_iff_getElem.2 fun a b ha hb hab g h1 h2 => ?_
    have ha' : a < L.length := by simpa using ha
    have hb' : b < L.length := by simpa using hb
    rw [List.getElem_set] at h1 h2
    split at h1
    · rename_i hia
      rw [if_neg (by omega)] at h2
      rcases ho with ho | ho | ho
      · rw [ho] at h1; exact hne b hb' (by omega) g h2 h1
      · rw [ho] at h1
        have := hlt b hb' g h2
        injection h1 with h1
        omega
      · rw [ho] at h1; cases h1
    · split at h2
      · rcases ho with ho | ho | ho
        · rw [ho] at h2; exact hne a ha' (by omega) g h1 h2
        · rw [ho] at h2
          have := hlt a ha' g h1
          injection h2 with h2
          omega
        · rw [ho] at h2; cases h2
      · exact hp a b ha' hb' hab g h1 h2
/-- frozen cells grow in the block of entry i alone -/
theorem St.more {H' : Cells} {i : Nat} {e e' : Ent} (h : St c H w L) (hL : L[i]? = some e) (hl : H.le H') (hin : HIn H' w) (hn : ∀ b o, e.own ≠ some b → H' b o = H b o) (he' : e'.In H' c.w0.heap.size w) (ho : e'.own = e.own) : St c H' w (L.set i e') := by
  have hmem := List.mem_of_getElem? hL
  have hil : i < L.length := (List.getElem?_eq_some_iff.1 hL).1
  have hi' : L[i] = e := (List.getElem?_eq_some_iff.1 hL).2
  have hp := List.pairwise_iff_getElem.1 h.apart
  have hne : ∀ j (hj : j < L.length), j ≠ i → ∀ g, (L[j]).own = some g → e.own ≠ some g := fun j hj hji g h1 h2 => by
    rcases Nat.lt_or_ge i j with hlt | hge
    · exact hp i j hil hj hlt g (by rw [hi']; exact h2) h1
    · exact hp j i hj hil (by omega) g h1 (by rw [hi']; exact h2)
  have hown : ∀ j (hj : j < (L.set i e').length), ((L.set i e')[j]).own = (L[j]'(by simpa using hj)).own := fun j hj => by
    rw [List.getElem_set]
    split
    · rename_i hij
      subst hij
      rw [hi', ho]
    · rfl
  refine ⟨h.below, h.le.trans hl, hin, fun b o u hu hb => ?_, ?_, ?_, h.dr⟩
  · refine h.old b o u ?_ hb
    rw [← hn b o (fun hh => by have := (Ent.own_ge (h.holds e hmem) hh).1; omega)]
    exact hu
  · intro x hx
    rw [List.mem_iff_getElem] at hx
    obtain ⟨j, hj, hx⟩ := hx
    have hj' : j < L.length := by simpa using hj
    rw [List.getElem_set] at hx
    split at hx
    · subst hx; exact he'
    · rename_i hij
      subst hx
      exact (h.holds _ (List.getElem_mem hj')).keep (Nat.le_refl _) hl (fun _ _ => rfl) (fun g hg o hno => by rw [hn g o (hne j hj' (fun e => hij e.symm) g hg)]; exact hno)
  · refine List.pairwise_iff_getElem.2 fun a b ha hb hab g' h1 h2 => ?_
    rw [hown] at h1 h2
    exact hp a b _ _ hab g' h1 h2
/-! freezing -/
theorem St.freezeBlk {i g : Nat} {t : TypeId} {z : Bool} {cs : List AV} (h : St c H w L) (hL : L[i]? = some (.blk g t z cs)) :
    ∃ H', H.le H' ∧ St c H' w (L.set i (.blk g t true cs)) ∧ RelC H' g 0 cs := by
  obtain ⟨h1, us, h2, h3, h4, h5⟩ := h.holds _ (List.mem_of_getElem? hL)
  have hcell : ∀ o, w.cell? ⟨g, o, none⟩ = us[o]? := fun o => by simp [World.cell?, h2]
  let H' : Cells := fun b o => if b = g then us[o]? else H b o
  have hle : H.le H' := fun b o u hu => by
    by_cases hb : b = g
    · subst hb
      simp only [H', if_true]
      rw [← hcell, h.hin b o u hu]
    · simp only [H', hb, if_false]; exact hu
  have hin : HIn H' w := fun b o u hu => by
    by_cases hb : b = g
    · subst hb
      simp only [H', if_true] at hu
      rw [hcell, hu]
    · simp only [H', hb, if_false] at hu; exact h.hin b o u hu
  refine ⟨H', hle, h.more hL hle hin (fun b o hb => ?_) ⟨h1, us, h2, h3.mono hle, (fun h => by cases h), fun _ o u hu => by simp [H', hu]⟩ rfl, ?_⟩
  · have : b ≠ g := fun e => hb (by rw [e]; rfl)
    simp [H', this]
  · exact RelC.of (h3.mono hle) (fun i u hu => by simp [H', hu])
theorem rel_row {v : Value} {t : TypeId} {size : Nat} {xs : List AV} {us : List Value} (hr : w.ownsRow c.w0.heap.size t size v xs.length us) (h2 : RelL H (xs.flatMap AV.cells) us) (h3 : ∀ x ∈ xs, x.cells.length = size)
    (h6 : ∀ g, v.ownBlock = some g → ∀ o u, us[o]? = some u → H g o = some u) : Rel H (.sl size xs) v := by
  rcases hr.2 with ⟨hv, hn⟩ | ⟨g, cap, cur, hv, hb, hh, q1, q2, _⟩
  · have : xs = [] := List.eq_nil_of_length_eq_zero hn
    subst this; subst hv
    exact .sl0 (by unfold maxLen; omega)
  · subst hv
    exact .sl (RelE.of h3 (RelC.of h2 (fun i u hu => by rw [Nat.zero_add]; exact h6 g rfl i u hu))) q1 q2
theorem St.freezeRow {i : Nat} {v : Value} {t : TypeId} {size m : Nat} {z : Bool} {xs : List AV} (h : St c H w L) (hL : L[i]? = some (.row v t size m z xs)) :
    ∃ H', H.le H' ∧ St c H' w (L.set i (.row v t size xs.length true xs)) := by
  obtain ⟨us, hr, h2, h3, h4, h5, h6⟩ := h.holds _ (List.mem_of_getElem? hL)
  rcases hr.2 with ⟨hv, hn⟩ | ⟨g, cap, cur, hv, hb, hh, q1, q2, q3, q4⟩
  · have hx : xs = [] := List.eq_nil_of_length_eq_zero hn
    subst hx
    have hm : m = 0 := by simpa using h4
    subst hm
    refine ⟨H, Cells.le_refl _, h.more hL (Cells.le_refl _) h.hin (fun _ _ _ => rfl) ⟨us, hr, h2, h3, Nat.le_refl _, h5, fun _ g hg => ?_⟩ rfl⟩
    rw [hv] at hg
    simp [Value.ownBlock] at hg
  · have hown : v.ownBlock = some g := by rw [hv]; rfl
    have hcell : ∀ o u, us[o]? = some u → w.cell? ⟨g, o, none⟩ = some u := fun o u hu => by
      rw [← q4, List.getElem?_take] at hu
      split at hu
      · simpa [World.cell?, hh] using hu
      · cases hu
    let H' : Cells := fun b o => if b = g ∧ o < us.length then us[o]? else H b o
    have hle : H.le H' := fun b o u hu => by
      by_cases hb : b = g ∧ o < us.length
      · simp only [H', hb, and_self, if_true]
        obtain ⟨rfl, ho⟩ := hb
        have h1 := h.hin b o u hu
        have h2 := hcell o us[o] (by simp [ho])
        rw [h1] at h2
        simp only [Option.some.injEq] at h2
        simp [ho, h2]
      · simp only [H', hb, if_false]; exact hu
    have hin : HIn H' w := fun b o u hu => by
      by_cases hb : b = g ∧ o < us.length
      · simp only [H', hb, and_self, if_true] at hu
        obtain ⟨rfl, _⟩ := hb
        exact hcell o u hu
      · simp only [H', hb, if_false] at hu; exact h.hin b o u hu
    refine ⟨H', hle, h.more hL hle hin (fun b o hb => ?_) ⟨us, hr, h2.mono hle, h3, Nat.le_refl _, fun g' hg' o ho => ?_, fun _ g' hg' o u hu => ?_⟩ rfl⟩
    · have : b ≠ g := fun e => hb (by rw [e]; exact hown)
      simp [H', this]
    · rw [hown] at hg'
      cases hg'
      have : ¬ o < us.length := by rw [hr.1]; omega
      simp only [H', this, and_false, if_false]
      refine h5 g hown o (Nat.le_trans (Nat.mul_le_mul_right _ h4) ho)
    · rw [hown] at hg'
      cases hg'
      have : o < us.length := (List.getElem?_eq_some_iff.1 hu).1
      simp only [H', this, and_self, if_true]
      exact hu
/-- what a frozen entry vouches for -/
theorem St.relRow {i : Nat} {v : Value} {t : TypeId} {size m : Nat} {xs : List AV} (h : St c H w L) (hL : L[i]? = some (.row v t size m true xs)) : Rel H (.sl size xs) v := by
  obtain ⟨us, hr, h2, h3, _, _, h6⟩ := h.holds _ (List.mem_of_getElem? hL)
  exact rel_row hr h2 h3 (fun g hg o u hu => h6 rfl g hg o u hu)
theorem St.relBlk {i g : Nat} {t : TypeId} {cs : List AV} (h : St c H w L) (hL : L[i]? = some (.blk g t true cs)) : RelC H g 0 cs := by
  obtain ⟨_, us, _, h3, _, h5⟩ := h.holds _ (List.mem_of_getElem? hL)
  exact RelC.of h3 (fun i u hu => by rw [Nat.zero_add]; exact h5 rfl i u hu)
/-! a can be seen as b -/
mutual
inductive Sb (L : List Ent) : AV → AV → Prop
  | refl (a : AV) : Sb L a a
  | row {v : Value} {t : TypeId} {k m : Nat} {xs : List AV} (i : Nat) (h : L[i]? = some (.row v t k m true xs)) : Sb L (.v v) (.sl k xs)
  | ptr {g off : Nat} {t : TypeId} {cs : List AV} (i : Nat) (h : L[i]? = some (.blk g t true cs)) : Sb L (.v (.pointer (some ⟨g, off, none⟩))) (.fp cs off)
  | agg {cs ds : List AV} (h : SbL L cs ds) : Sb L (.agg cs) (.agg ds)
  | tup {cs ds : List AV} (h : SbL L cs ds) : Sb L (.tup cs) (.tup ds)
  | fn {f : Go.Fn} {cs ds : List AV} (h : SbL L cs ds) : Sb L (.fn f cs) (.fn f ds)
  | fn0 {f : Go.Fn} : Sb L (.v (.func f #[] #[])) (.fn f [])
  | nil {k : Nat} : Sb L (.v (.slice none 0 0)) (.sl k [])
inductive SbL (L : List Ent) : List AV → List AV → Prop
  | nil : SbL L [] []
  | cons {a b : AV} {as bs : List AV} (h : Sb L a b) (t : SbL L as bs) : SbL L (a :: as) (b :: bs)
end
mutual
theorem Sb.rel (h : St c H w L) : ∀ {a b : AV} {v : Value}, Sb L a b → Rel H a v → Rel H b v
  | _, _, _, .refl _, r => r
  | _, _, _, .row i hi, r => by cases r; exact h.relRow hi
  | _, _, _, .ptr (g := g) (off := off) (cs := cs) i hi, r => by
    cases r
    have := Rel.fp (off := off) (h.relBlk hi)
    rwa [Nat.zero_add] at this
  | _, _, _, .agg q, r => by cases r with | agg r => exact .agg (SbL.rel h q r)
  | _, _, _, .tup q, r => by cases r with | tup r => exact .tup (SbL.rel h q r)
  | _, _, _, .fn q, r => by cases r with | fn r => exact .fn (SbL.rel h q r)
  | _, _, _, .fn0, r => by cases r; exact .fn .nil
  | _, _, _, .nil, r => by cases r; exact .sl0 (by unfold maxLen; omega)
theorem SbL.rel (h : St c H w L) : ∀ {a b : List AV} {v : List Value}, SbL L a b → RelL H a v → RelL H b v
  | _, _, _, .nil, r => r
  | _, _, _, .cons q t, .cons r u => .cons (Sb.rel h q r) (SbL.rel h t u)
end
theorem SbL.refl : ∀ as : List AV, SbL L as as
  | [] => .nil
  | a :: as => .cons (.refl a) (SbL.refl as)
end
end Go.E2
namespace Go.E2
open Go.RowKit

def OnlyN (Q : Exit → Act → World → Prop) : Exit → Act → World → Prop
  | .normal, a, w => Q .normal a w
  | _, _, _ => False
def wd (ro : Option Nat) : Fence := { Fence.wide with round := ro }
structure Lx (P : Program) (c : Ctx) (n : Cfg) (ops : Array Oper) (Q : Exit → Act → World → Prop) (l : List Oper) (F : Fr) (L : List Ent) : Prop where
  out : ∀ H w a, St c H w L → Fit H n F a → wpList P ops (OnlyN Q) l a w
structure Cx (P : Program) (c : Ctx) (n : Cfg) (code : Code) (Q : Exit → Act → World → Prop) (F : Fr) (L : List Ent) : Prop where
  out : ∀ H w a, St c H w L → Fit H n F a → ∀ d, code.wpIn (wd n.ro) d P Q a w
structure Ex (c : Ctx) (n : Cfg) (Q : Exit → Act → World → Prop) (e : Exit) (F : Fr) (L : List Ent) : Prop where
  out : ∀ H w a, St c H w L → Fit H n F a → Q e a w
/-- a call's contract -/
structure FnE (P : Program) (f : FuncId) (args : List AV) (Φ : AV → List Ent → Prop) : Prop where
  out : ∀ H w vs, HIn H w → RelL H args vs → Calls P f vs.toArray w fun e w' => ∃ v a H' E, e = .returned v ∧ Φ a E ∧ Rel H' a v ∧ St ⟨w, H⟩ H' w' E
def Is (r : AV) : AV → List Ent → Prop := fun a E => a = r ∧ E = []
abbrev FnA (P : Program) (f : FuncId) (args : List AV) (r : AV) : Prop := FnE P f args (Is r)
theorem FnE.mono {P : Program} {f : FuncId} {args : List AV} {Φ Ψ : AV → List Ent → Prop} (h : FnE P f args Φ) (hm : ∀ a E, Φ a E → Ψ a E) : FnE P f args Ψ :=
  ⟨fun H w vs hi hr => Calls.mono (h.out H w vs hi hr) fun _ _ ⟨v, a, H', E, he, hp, hs⟩ => ⟨v, a, H', E, he, hm _ _ hp, hs⟩⟩
theorem FnE.val {P : Program} {f : FuncId} {args : List AV} {r r' : AV} (h : FnA P f args r) (e : r = r') : FnA P f args r' := by subst e; exact h

/-! regions: from the plain to the fenced -/
def noDef : Op → Bool
  | .defer _ => false
  | _ => true
theorem callsIn_wd {P : Program} {f : FuncId} {args : Array Value} {w : World} {R : Ending → World → Prop} (ro : Option Nat) (d : Nat) (h : Calls P f args w R) : CallsIn (wd ro) d P f args w R := by
  cases ro with
  | none => exact callsIn_wide.2 h
  | some l => exact CallsIn.inRound l (callsIn_wide.2 h)
theorem rowsIn_wd {P : Program} {row : String} {args : Array Value} {w : World} {R : Value → World → Prop} (ro : Option Nat) (d : Nat) (h : Rows P row args w R) : RowsIn (wd ro) d P row args w R :=
  fun c cs _ => let ⟨v, w', r, s⟩ := h c cs; ⟨v, w', r, (StepsIn.of_steps s).mono fun m _ => fenced_wide P m⟩
theorem oper_in {P : Program} {o : Oper} {a : Act} {w : World} {ro : Option Nat} {d : Nat} {Q : Exit → Act → World → Prop} {K K' : Act → World → Prop} (hd : noDef o.op = true) (hK : ∀ a w, K a w → K' a w) (h : o.wp P a w K (OnlyN Q)) : o.wpIn (wd ro) d P a w K' Q := by
  refine ⟨fun _ _ => trivial, ?_⟩
  have hs : o.semAt (wd ro).round a.eval = execOp a.eval o := Oper.semAt_eq _ _ _ (fun c hc => by rw [hc] at hd; cases hd)
  rw [hs]
  unfold Oper.wp at h
  generalize (execOp a.eval o).run P w = r at *
  have hdep : (wd ro).depth.isSome = true → 1 ≤ d := fun h => by simp [wd, Fence.wide] at h
  cases r with
  | ok nx w' =>
    cases nx with
    | value v => exact hK _ _ h
    | skip => exact hK _ _ h
    | defer dd => exact hK _ _ h
    | enter f args =>
      refine ⟨hdep, callsIn_wd ro _ (Calls.mono h ?_)⟩
      intro e w'' he
      cases e with
      | returned v => exact hK _ _ he
      | panicked c => exact he.elim
      | outgrown => obtain ⟨_, _, hf⟩ := he; exact hf.elim
    | row row args => exact ⟨hdep, rowsIn_wd ro _ (Rows.mono h fun _ _ he => hK _ _ he)⟩
    | _ => exact h.elim
  | halt x w' => cases x <;> exact h.elim
theorem wpOps_in {P : Program} {ops : Array Oper} {ro : Option Nat} {d : Nat} {Q : Exit → Act → World → Prop} (hd : ∀ (i : Nat) (o : Oper), ops[i]? = some o → noDef o.op = true) : ∀ (l : List Nat) (a : Act) (w : World), wpOps P ops (OnlyN Q) l a w → wpOpsIn (wd ro) d P ops Q l a w
  | [], _, _, h => h
  | i :: l, a, w, h => by
    simp only [wpOps] at h
    simp only [wpOpsIn]
    cases ho : ops[i]? with
    | none => rw [ho] at h; exact wpOps_in hd l a w h
    | some o =>
      rw [ho] at h
      simp only at h ⊢
      split at h
      · rename_i hw
        rw [if_pos hw]
        rcases h with h | ⟨_, _, _, hf⟩
        · exact oper_in (hd i o ho) (fun a w => wpOps_in hd l a w) h
        · exact hf.elim
      · rename_i hw
        rw [if_neg hw]
        exact ⟨fun _ _ => trivial, wpOps_in hd l _ w h⟩
theorem noDef_get {l : List Oper} (h : l.all (fun o => noDef o.op) = true) (i : Nat) (o : Oper) (ho : l.toArray[i]? = some o) : noDef o.op = true := by
  simp only [List.getElem?_toArray] at ho
  exact List.all_eq_true.1 h o (List.mem_of_getElem? ho)
/-- a region whose order is open, every order shown -/
theorem wpIn_of_any {P : Program} {id : Nat} {l : List Oper} {ro : Option Nat} {d : Nat} {Q : Exit → Act → World → Prop} {a : Act} {w : World} (hd : l.all (fun o => noDef o.op) = true) (hm : P.follows .mixedOrders = true)
    (h : wpAny P .any l.toArray (OnlyN Q) l.toArray.size (Array.replicate l.toArray.size false) a { w with drawn := w.drawn + 1 }) : (Code.region id l.toArray true).wpIn (wd ro) d P Q a w :=
  wpIn_region_draw fun t => by
    simp only [Region.schedule, hm, Bool.true_or, if_true]
    exact wpOps_in (noDef_get hd) _ _ _ (wpAny_sound _ t _ a _ h)

section rules
variable {P : Program} {c : Ctx} {n : Cfg} {ops : Array Oper} {Q : Exit → Act → World → Prop} {F : Fr} {L : List Ent} {m : Nat} {ds : List Deferred} {ro : Option Nat}

/-! code: what stands behind is kept behind a variable K -/
structure Kseq (P : Program) (m : Nat) (ro : Option Nat) (c : Ctx) (y : Code) (Q K : Exit → Act → World → Prop) : Prop where
  norm : ∀ ds F L, Cx P c ⟨m, ds, ro⟩ y Q F L → Ex c ⟨m, ds, ro⟩ K .normal F L
  other : ∀ ds e F L, e ≠ .normal → Ex c ⟨m, ds, ro⟩ Q e F L → Ex c ⟨m, ds, ro⟩ K e F L
structure Kblk (m : Nat) (ro : Option Nat) (c : Ctx) (id : Nat) (Q K : Exit → Act → World → Prop) : Prop where
  norm : ∀ ds F L, Ex c ⟨m, ds, ro⟩ Q .normal F L → Ex c ⟨m, ds, ro⟩ K .normal F L
  out : ∀ ds F L, Ex c ⟨m, ds, ro⟩ Q .normal F L → Ex c ⟨m, ds, ro⟩ K (.exit id) F L
  other : ∀ ds e F L, e ≠ .normal → e ≠ .exit id → Ex c ⟨m, ds, ro⟩ Q e F L → Ex c ⟨m, ds, ro⟩ K e F L
theorem Cx.seq {x y : Code} (h : ∀ K, Kseq P m ro c y Q K → Cx P c ⟨m, ds, ro⟩ x K F L) : Cx P c ⟨m, ds, ro⟩ (.seq x y) Q F L :=
  ⟨fun H w a hs hf d => wpIn_seq ((h (Exit.then (y.wpIn (wd ro) d P Q) Q) ⟨fun _ _ _ k => ⟨fun H w a hs hf => k.out H w a hs hf d⟩, fun _ e _ _ he k => ⟨fun H w a hs hf => by cases e <;> first | exact absurd rfl he | exact k.out H w a hs hf⟩⟩).out H w a hs hf d)⟩
theorem Ex.seq {y : Code} {K : Exit → Act → World → Prop} (hk : Kseq P m ro c y Q K) (h : Cx P c ⟨m, ds, ro⟩ y Q F L) : Ex c ⟨m, ds, ro⟩ K .normal F L := hk.norm ds F L h
theorem Cx.block {id : Nat} {x : Code} (h : ∀ K, Kblk m ro c id Q K → Cx P c ⟨m, ds, ro⟩ x K F L) : Cx P c ⟨m, ds, ro⟩ (.block id x) Q F L :=
  ⟨fun H w a hs hf d => wpIn_block ((h (Exit.inBlock id Q) ⟨fun _ _ _ k => ⟨fun H w a hs hf => k.out H w a hs hf⟩, fun _ _ _ k => ⟨fun H w a hs hf => by have := k.out H w a hs hf; simpa [Exit.inBlock] using this⟩,
    fun _ e _ _ h1 h2 k => ⟨fun H w a hs hf => by
      have := k.out H w a hs hf
      cases e with
      | exit id' =>
        have hne : id' ≠ id := fun e => h2 (by rw [e])
        simpa [Exit.inBlock, hne] using this
      | normal => exact absurd rfl h1
      | goto l => exact this
      | ret => exact this
      | panic ch => exact this
      | outgrown => exact this⟩⟩).out H w a hs hf d)⟩
theorem Ex.blk {id : Nat} {K : Exit → Act → World → Prop} (hk : Kblk m ro c id Q K) (h : Ex c ⟨m, ds, ro⟩ Q .normal F L) : Ex c ⟨m, ds, ro⟩ K .normal F L := hk.norm ds F L h
theorem Cx.skip (h : Ex c n Q .normal F L) : Cx P c n .skip Q F L := ⟨fun H w a hs hf _ => wpIn_skip (h.out H w a hs hf)⟩
theorem Cx.ret (h : Ex c n Q .ret F L) : Cx P c n .ret Q F L := ⟨fun H w a hs hf _ => wpIn_ret (h.out H w a hs hf)⟩
theorem Cx.exit {id : Nat} (h : Ex c n Q (.exit id) F L) : Cx P c n (.exit id) Q F L := ⟨fun H w a hs hf _ => wpIn_exit (h.out H w a hs hf)⟩
theorem Fit.bool {H : Cells} {a : Act} {x : Operand} {b : Bool} (hf : Fit H n F a) (hc : oget n F x = some (.v (.bool b))) : a.eval x = .bool b := by
  exact (hf.eval hc).inv
theorem Cx.cond {x : Operand} {y z : Code} {b : Bool} (hc : oget n F x = some (.v (.bool b))) (ht : b = true → Cx P c n y Q F L) (hf : b = false → Cx P c n z Q F L) :
    Cx P c n (.cond x y z) Q F L := ⟨fun H w a hs hF d => wpIn_cond_split (hF.bool hc) (fun e => (ht e).out H w a hs hF d) (fun e => (hf e).out H w a hs hF d)⟩
theorem Cx.cond_f {x : Operand} {y z : Code} (hc : oget n F x = some (.v (.bool false))) (ht : Cx P c n z Q F L) : Cx P c n (.cond x y z) Q F L :=
  ⟨fun H w a hs hF d => wpIn_cond_false (hF.bool hc) (ht.out H w a hs hF d)⟩
theorem Cx.region {id : Nat} {l : List Oper} (hd : l.all (fun o => noDef o.op) = true) (h : Lx P c n l.toArray Q l F L) : Cx P c n (.region id l.toArray false) Q F L :=
  ⟨fun H w a hs hF _ => wpIn_region (wpOps_in (noDef_get hd) _ _ _ (by
    have h' := h.out H w a hs hF
    rw [← wpOps_eq_wpList l 0 (by simp)] at h'
    rw [List.range_eq_range']
    simpa using h'))⟩
theorem Lx.nil (h : Ex c n Q .normal F L) : Lx P c n ops Q [] F L := ⟨fun H w a hs hF => wpList_nil (h.out H w a hs hF)⟩

/-! ghost steps -/
theorem Cx.see {x : Code} (s : Nat) {a b : AV} (h : look F s = some a) (hs : Sb L a b) (k : Cx P c n x Q ((s, b) :: F) L) : Cx P c n x Q F L :=
  ⟨fun H w ac hst hF d => k.out H w ac hst ⟨hF.ds, hF.size, fun t y ht hn => by
    by_cases e : s = t
    · subst e
      rw [look_cons_self] at ht
      cases ht
      obtain ⟨v, h1, h2⟩ := hF.rel s a h hn
      exact ⟨v, h1, hs.rel hst h2⟩
    · rw [look_cons_ne _ _ e] at ht; exact hF.rel t y ht hn⟩ d⟩
theorem Ex.see {x : Exit} (s : Nat) {a b : AV} (h : look F s = some a) (hs : Sb L a b) (k : Ex c n Q x ((s, b) :: F) L) : Ex c n Q x F L :=
  ⟨fun H w ac hst hF => k.out H w ac hst ⟨hF.ds, hF.size, fun t y ht hn => by
    by_cases e : s = t
    · subst e
      rw [look_cons_self] at ht
      cases ht
      obtain ⟨v, h1, h2⟩ := hF.rel s a h hn
      exact ⟨v, h1, hs.rel hst h2⟩
    · rw [look_cons_ne _ _ e] at ht; exact hF.rel t y ht hn⟩⟩
theorem Cx.know {x : Code} (s : Nat) {a b : AV} (h : look F s = some a) (hs : a = b) (k : Cx P c n x Q ((s, b) :: F) L) : Cx P c n x Q F L := Cx.see s h (by rw [hs]; exact .refl _) k
theorem Ex.know {x : Exit} (s : Nat) {a b : AV} (h : look F s = some a) (hs : a = b) (k : Ex c n Q x ((s, b) :: F) L) : Ex c n Q x F L := Ex.see s h (by rw [hs]; exact .refl _) k
theorem Cx.frzR {x : Code} (i : Nat) {v : Value} {t : TypeId} {size m : Nat} {z : Bool} {xs : List AV} (hL : L[i]? = some (.row v t size m z xs)) (k : Cx P c n x Q F (L.set i (.row v t size xs.length true xs))) : Cx P c n x Q F L :=
  ⟨fun _ w a hs hF d => let ⟨H', hl, hs'⟩ := hs.freezeRow hL; k.out H' w a hs' (hF.mono hl) d⟩
theorem Ex.frzR {x : Exit} (i : Nat) {v : Value} {t : TypeId} {size m : Nat} {z : Bool} {xs : List AV} (hL : L[i]? = some (.row v t size m z xs)) (k : Ex c n Q x F (L.set i (.row v t size xs.length true xs))) : Ex c n Q x F L :=
  ⟨fun _ w a hs hF => let ⟨H', hl, hs'⟩ := hs.freezeRow hL; k.out H' w a hs' (hF.mono hl)⟩
theorem Lx.frzR {l : List Oper} (i : Nat) {v : Value} {t : TypeId} {size m : Nat} {z : Bool} {xs : List AV} (hL : L[i]? = some (.row v t size m z xs)) (k : Lx P c n ops Q l F (L.set i (.row v t size xs.length true xs))) : Lx P c n ops Q l F L :=
  ⟨fun _ w a hs hF => let ⟨H', hl, hs'⟩ := hs.freezeRow hL; k.out H' w a hs' (hF.mono hl)⟩
theorem Cx.frzB {x : Code} (i : Nat) {g : Nat} {t : TypeId} {z : Bool} {cs : List AV} (hL : L[i]? = some (.blk g t z cs)) (k : Cx P c n x Q F (L.set i (.blk g t true cs))) : Cx P c n x Q F L :=
  ⟨fun _ w a hs hF d => let ⟨H', hl, hs', _⟩ := hs.freezeBlk hL; k.out H' w a hs' (hF.mono hl) d⟩
theorem Ex.frzB {x : Exit} (i : Nat) {g : Nat} {t : TypeId} {z : Bool} {cs : List AV} (hL : L[i]? = some (.blk g t z cs)) (k : Ex c n Q x F (L.set i (.blk g t true cs))) : Ex c n Q x F L :=
  ⟨fun _ w a hs hF => let ⟨H', hl, hs', _⟩ := hs.freezeBlk hL; k.out H' w a hs' (hF.mono hl)⟩
theorem Lx.frzB {l : List Oper} (i : Nat) {g : Nat} {t : TypeId} {z : Bool} {cs : List AV} (hL : L[i]? = some (.blk g t z cs)) (k : Lx P c n ops Q l F (L.set i (.blk g t true cs))) : Lx P c n ops Q l F L :=
  ⟨fun _ w a hs hF => let ⟨H', hl, hs', _⟩ := hs.freezeBlk hL; k.out H' w a hs' (hF.mono hl)⟩
theorem Cx.weak {x : Code} (G : Fr) {L' : List Ent} (hG : ∀ s y, look G s = some y → look F s = some y) (hL : L'.Sublist L) (k : Cx P c n x Q G L') : Cx P c n x Q F L :=
  ⟨fun H w a hs hF d => k.out H w a (hs.sub hL) (hF.weak hG) d⟩
theorem Ex.weak {x : Exit} (G : Fr) {L' : List Ent} (hG : ∀ s y, look G s = some y → look F s = some y) (hL : L'.Sublist L) (k : Ex c n Q x G L') : Ex c n Q x F L :=
  ⟨fun H w a hs hF => k.out H w a (hs.sub hL) (hF.weak hG)⟩
/-- a nil slice may be appended to -/
theorem St.nilrow {H : Cells} {w : World} (h : St c H w L) (t : TypeId) (size : Nat) : St c H w (.row (.slice none 0 0) t size 0 false [] :: L) :=
  ⟨h.below, h.le, h.hin, h.old, by
    intro e he
    rcases List.mem_cons.1 he with rfl | he
    · exact ⟨[], ⟨by simp, .inl ⟨rfl, rfl⟩⟩, .nil, by simp, by simp, fun g hg => by simp [Value.ownBlock] at hg, fun h => by cases h⟩
    · exact h.holds e he, List.pairwise_cons.2 ⟨fun b _ g hg => by simp [Ent.own, Value.ownBlock] at hg, h.apart⟩, h.dr⟩
theorem Cx.nilrow {x : Code} (t : TypeId) (size : Nat) (k : Cx P c n x Q F (.row (.slice none 0 0) t size 0 false [] :: L)) : Cx P c n x Q F L := ⟨fun H w a hs hF d => k.out H w a (hs.nilrow t size) hF d⟩
theorem Lx.nilrow {l : List Oper} (t : TypeId) (size : Nat) (k : Lx P c n ops Q l F (.row (.slice none 0 0) t size 0 false [] :: L)) : Lx P c n ops Q l F L := ⟨fun H w a hs hF => k.out H w a (hs.nilrow t size) hF⟩

/-! a cut: what stands behind a piece of code is shown once -/
structure Kcut (m : Nat) (ro : Option Nat) (c : Ctx) (σ : Type) (p : σ → Prop) (G : σ → Fr) (M : σ → List Ent) (Q K : Exit → Act → World → Prop) : Prop where
  norm : ∀ ds F L s, p s → (∀ t y, look (G s) t = some y → look F t = some y) → (M s).Sublist L → Ex c ⟨m, ds, ro⟩ K .normal F L
  other : ∀ ds e F L, e ≠ .normal → Ex c ⟨m, ds, ro⟩ Q e F L → Ex c ⟨m, ds, ro⟩ K e F L

/-! guards -/
def gslot (ops : Array Oper) (j : Nat) : Option Nat := (ops[j]?).bind (·.dst)
def wantV : AV → Bool → Option Bool
  | .v (.bool x), true => some x
  | .v (.bool x), false => some (!x)
  | .opt y (.v (.bool x)), true => some (y && x)
  | .opt y (.v (.bool x)), false => some (y && !x)
  | .v (.tuple _), _ => some false
  | _, _ => none
def wantF (ops : Array Oper) (n : Nat) (φ : Nat → Option AV) : Option (Nat × Bool) → Option Bool
  | none => some true
  | some (j, b) => match gslot ops j with
    | some d => match Nat.blt d n with
      | true => match φ d with
        | some a => wantV a b
        | none => none
      | false => none
    | none => none
def wantB (ops : Array Oper) (n : Cfg) (F : Fr) (g : Option (Nat × Bool)) : Option Bool := wantF ops n.n (look F) g
theorem wanted_fit {H : Cells} {φ : Nat → Option AV} {a : Act} {o : Oper} {b : Bool} (_hsz : a.tmps.size = n.n) (hF : ∀ s x, φ s = some x → s < n.n → ∃ v, a.tmps[s]? = some v ∧ Rel H x v) (h : wantF ops n.n φ o.guard = some b) : Region.wanted o (yielded ops a.tmps) = b := by
  unfold Region.wanted
  cases hg : o.guard with
  | none => rw [hg] at h; simp only [wantF, Option.some.injEq] at h; exact h
  | some jb =>
    obtain ⟨j, want⟩ := jb
    rw [hg] at h
    simp only [wantF, gslot] at h
    unfold yielded
    cases hd : (ops[j]?).bind (·.dst) with
    | none => rw [hd] at h; cases h
    | some d =>
      rw [hd] at h
      simp only at h
      split at h
      · rename_i hb
        have hlt : d < n.n := by simpa [Nat.blt_eq] using hb
        split at h
        · rename_i x hl
          obtain ⟨v, h1, h2⟩ := hF d _ hl hlt
          unfold wantV at h
          split at h
          · cases h; cases h2; simp only [hd, Option.bind_some, h1]; cases b <;> rfl
          · rename_i x
            cases h; cases h2; simp only [hd, Option.bind_some, h1]; cases x <;> rfl
          · rename_i y x
            obtain ⟨k1, k2⟩ := h2.inv_opt
            cases h
            cases y with
            | true => have := (k1 rfl).inv; subst this; simp only [hd, Option.bind_some, h1]; cases x <;> rfl
            | false => have := k2 rfl; subst this; simp only [hd, Option.bind_some, h1]; rfl
          · rename_i y x
            obtain ⟨k1, k2⟩ := h2.inv_opt
            cases h
            cases y with
            | true => have := (k1 rfl).inv; subst this; simp only [hd, Option.bind_some, h1]; cases x <;> rfl
            | false => have := k2 rfl; subst this; simp only [hd, Option.bind_some, h1]; rfl
          · cases h; cases h2; simp only [hd, Option.bind_some, h1]; rfl
          · cases h
        · cases h
      · cases h

/-! operations that leave the local heap alone -/
def Reads (H : Cells) (n : Cfg) (F : Fr) (xs : Array Operand) (ρ : Operand → Value) : Prop := ∀ x ∈ xs, ∀ av, oget n F x = some av → Rel H av (ρ x)
def GrowsTo (P : Program) (H : Cells) (w : World) (r : AV) : Result Next → Prop
  | .ok (.value v) w' => ∃ H', St ⟨w, H⟩ H' w' [] ∧ Rel H' r v
  | .ok (.enter f args) w' => w' = w ∧ Calls P f args w fun e w'' => ∃ v H', e = .returned v ∧ St ⟨w, H⟩ H' w'' [] ∧ Rel H' r v
  | _ => False
structure Gr (P : Program) (c : Ctx) (n : Cfg) (o : Op) (ty : TypeId) (F : Fr) (L : List Ent) (r : AV) : Prop where
  out : ∀ H w ρ, St c H w L → Reads H n F o.operands ρ → ∀ d pos aft g, GrowsTo P H w r ((execOp ρ ⟨d, o, ty, pos, aft, g⟩).run P w)
theorem Gr.pure {o : Op} {ty : TypeId} {r : AV} (h : ∀ H w ρ, St c H w L → Reads H n F o.operands ρ → ∀ d pos aft g, ∃ v, (execOp ρ ⟨d, o, ty, pos, aft, g⟩).run P w = .ok (.value v) w ∧ Rel H r v) : Gr P c n o ty F L r :=
  ⟨fun H w ρ hs hr d pos aft g => by obtain ⟨v, h1, h2⟩ := h H w ρ hs hr d pos aft g; rw [h1]; exact ⟨H, St.refl hs.hin, h2⟩⟩
theorem Gr.ofEq {o : Op} {ty : TypeId} {r r' : AV} (h : Gr P c n o ty F L r) (e : r = r') : Gr P c n o ty F L r' := by subst e; exact h
variable {d : Option Tmp} {o : Op} {ty : TypeId} {pos : String} {aft : Array Edge} {g : Option (Nat × Bool)} {rest : List Oper}
theorem Fit.reads {H : Cells} {a : Act} (hF : Fit H n F a) (xs : Array Operand) : Reads H n F xs a.eval := fun _ _ _ hx => hF.eval hx
theorem oper_wp_grows {H : Cells} {w : World} {r : AV} {a : Act} {oo : Oper} {K : Act → World → Prop} {Q' : Exit → Act → World → Prop} (hst : St c H w L) (h : GrowsTo P H w r ((execOp a.eval oo).run P w)) (k : ∀ H' w' v, H.le H' → St c H' w' L → Rel H' r v → K (a.put oo.dst v) w') : oo.wp P a w K Q' := by
  unfold Oper.wp
  generalize (execOp a.eval oo).run P w = res at *
  cases res with
  | ok nx w' =>
    cases nx <;> simp only [GrowsTo] at h <;> simp only [Oper.upon]
    case value u => obtain ⟨H', h1, h2⟩ := h; exact k H' _ u h1.le (by have := hst.trans h1; simpa using this) h2
    case enter f args =>
      obtain ⟨rfl, hc⟩ := h
      refine Calls.mono hc ?_
      rintro e w'' ⟨v, H', rfl, h2, h3⟩
      exact k H' w'' v h2.le (by have := hst.trans h2; simpa using this) h3
  | halt x w' => simp only [GrowsTo] at h
theorem Lx.gr {r : AV} (hg : wantB ops n F g = some true) (h : Gr P c n o ty F L r) (k : Lx P c n ops Q rest (putF d r F) L) : Lx P c n ops Q (⟨d, o, ty, pos, aft, g⟩ :: rest) F L :=
  ⟨fun H w a hs hF => by
    refine wpList_step fun K hK => ?_
    rw [if_pos (wanted_fit (o := ⟨d, o, ty, pos, aft, g⟩) hF.size hF.rel hg)]
    exact oper_wp_grows hs (h.out H w a.eval hs (hF.reads _) d pos aft g) fun H' w' v hl hs' hr => hK _ _ (k.out H' w' _ hs' ((hF.mono hl).put hr d))⟩
theorem Fit.putW {H : Cells} {a : Act} {r : AV} {w : Bool} {v : Value} (hF : Fit H n F a) (h : w = true → Rel H r v) (h' : w = false → v = undef) (d : Option Tmp) : Fit H n (putF d (.opt w r) F) (a.put d v) := hF.put (.opt h h') d
/-- an operation whose guard is not known: what it leaves, if it is wanted -/
theorem Lx.grW {r : AV} {b : Bool} (hg : wantB ops n F g = some b) (h : b = true → Gr P c n o ty F L r) (k : Lx P c n ops Q rest (putF d (.opt b r) F) L) : Lx P c n ops Q (⟨d, o, ty, pos, aft, g⟩ :: rest) F L :=
  ⟨fun H w a hs hF => by
    refine wpList_step fun K hK => ?_
    have hw := wanted_fit (o := ⟨d, o, ty, pos, aft, g⟩) hF.size hF.rel hg
    cases b with
    | true =>
      rw [if_pos hw]
      exact oper_wp_grows hs ((h rfl).out H w a.eval hs (hF.reads _) d pos aft g) fun H' w' v hl hs' hr => hK _ _ (k.out H' w' _ hs' ((hF.mono hl).putW (fun _ => hr) (fun e => by cases e) d))
    | false =>
      rw [if_neg (by rw [hw]; simp)]
      exact hK _ _ (k.out H w _ hs (hF.putW (fun e => by cases e) (fun _ => rfl) d))⟩
theorem Lx.skip (hg : wantB ops n F g = some false) (k : Lx P c n ops Q rest (putF d (.v undef) F) L) : Lx P c n ops Q (⟨d, o, ty, pos, aft, g⟩ :: rest) F L :=
  ⟨fun H w a hs hF => by
    refine wpList_step fun K hK => ?_
    rw [if_neg (by rw [wanted_fit (o := ⟨d, o, ty, pos, aft, g⟩) hF.size hF.rel hg]; simp)]
    exact hK _ _ (k.out H w _ hs (hF.put (.v _) d))⟩
theorem Fit.shadow {H : Cells} {a : Act} {s : Nat} {x : AV} (hF : Fit H n F a) (h : look F s = some x) : Fit H n ((s, x) :: F) a :=
  hF.weak fun t y ht => by
    by_cases e : s = t
    · subst e; rw [look_cons_self] at ht; rw [h, ht]
    · rwa [look_cons_ne _ _ e] at ht
/-- part on a Bool that a slot holds -/
theorem Lx.split {l : List Oper} (s : Nat) {b : Bool} (hv : look F s = some (.v (.bool b))) (ht : b = true → Lx P c n ops Q l ((s, .v (.bool true)) :: F) L) (hf : b = false → Lx P c n ops Q l ((s, .v (.bool false)) :: F) L) : Lx P c n ops Q l F L :=
  ⟨fun H w a hs hF => by
    cases b with
    | true => exact (ht rfl).out H w a hs (hF.shadow hv)
    | false => exact (hf rfl).out H w a hs (hF.shadow hv)⟩
theorem Cx.split {x : Code} (s : Nat) {b : Bool} (hv : look F s = some (.v (.bool b))) (ht : b = true → Cx P c n x Q ((s, .v (.bool true)) :: F) L) (hf : b = false → Cx P c n x Q ((s, .v (.bool false)) :: F) L) : Cx P c n x Q F L :=
  ⟨fun H w a hs hF d => by
    cases b with
    | true => exact (ht rfl).out H w a hs (hF.shadow hv) d
    | false => exact (hf rfl).out H w a hs (hF.shadow hv) d⟩

/-! entering and leaving a function -/
def argF : Nat → List AV → Fr
  | _, [] => []
  | i, v :: vs => (i, v) :: argF (i + 1) vs
theorem look_argF (vs : List AV) : ∀ i j, look (argF i vs) j = if i ≤ j then vs[j - i]? else none := by
  induction vs with
  | nil => intro i j; simp [argF, look]
  | cons v vs ih =>
    intro i j
    simp only [argF]
    by_cases h : i = j
    · subst h; rw [look_cons_self]; simp
    · rw [look_cons_ne v _ h, ih]
      by_cases h1 : i ≤ j
      · rw [if_pos h1, if_pos (by omega)]
        obtain ⟨m, rfl⟩ : ∃ m, j = i + 1 + m := ⟨j - i - 1, by omega⟩
        rw [show i + 1 + m - (i + 1) = m by omega, show i + 1 + m - i = m + 1 by omega]
        simp
      · rw [if_neg h1, if_neg (by omega)]
def Post (c : Ctx) (Φ : AV → List Ent → Prop) : Ending → World → Prop := fun e w' => ∃ v a H' E, e = .returned v ∧ Φ a E ∧ Rel H' a v ∧ St c H' w' E
structure Ktop (P : Program) (c : Ctx) (m : Nat) (fn : Func) (Φ : AV → List Ent → Prop) (K : Exit → Act → World → Prop) : Prop where
  out : ∀ e F L, Ex c ⟨m, [], none⟩ (bodyPost P fn (Post c Φ)) e F L → Ex c ⟨m, [], none⟩ K e F L
theorem fit_args {H : Cells} {args : List AV} {vs : List Value} (h : RelL H args vs) (hm : vs.length ≤ m) (ro : Option Nat) : Fit H ⟨m, [], ro⟩ (argF 0 args) ⟨vs.toArray ++ Array.replicate (m - vs.toArray.size) undef, []⟩ := by
  refine ⟨rfl, by simp; omega, fun s x hs _ => ?_⟩
  rw [look_argF] at hs
  simp only [Nat.zero_le, if_true, Nat.sub_zero] at hs
  obtain ⟨v, h1, h2⟩ := h.get hs
  refine ⟨v, ?_, h2⟩
  have hlt := (List.getElem?_eq_some_iff.1 h1).1
  rw [Array.getElem?_append_left (by simpa using hlt)]
  simpa using h1
theorem fn_of {f : FuncId} {fn : Func} {x : Code} {args : List AV} {Φ : AV → List Ent → Prop} (hf : P.funcs[f]? = some fn) (hb : fn.body = some x) (hn : fn.ntmps = m) (ha : Nat.ble args.length m = true)
    (h : ∀ c K, Ktop P c m fn Φ K → Cx P c ⟨m, [], none⟩ x K (argF 0 args) []) : FnE P f args Φ := by
  have ha : args.length ≤ m := Nat.le_of_ble_eq_true ha
  refine ⟨fun H w vs hi hr => calls_of_wp hf hb ?_⟩
  rw [hn]
  exact wpIn_wide.1 ((h ⟨w, H⟩ _ ⟨fun _ _ _ k => k⟩).out H w _ (St.refl hi) (fit_args hr (by rw [← hr.len]; exact ha) none) 0)
def rvSem (tmps : Array Value) (r : ResultVar) : Sem Value :=
  match r with
  | .tmp t => pure (tmps.getD t undef)
  | .cell a t => do loadVar t (← asAddr (tmps.getD a undef))
theorem results_rv (fn : Func) (tmps : Array Value) : results fn tmps = (do let vs ← fn.results.mapM (rvSem tmps); pure (if h : vs.size = 1 then vs[0] else .tuple vs)) := by
  unfold results
  congr 1
/-- the value of a result variable -/
structure Rv (P : Program) (c : Ctx) (n : Cfg) (r : ResultVar) (F : Fr) (L : List Ent) (x : AV) : Prop where
  out : ∀ H w a, St c H w L → Fit H n F a → ∃ v, (rvSem a.tmps r).run P w = .ok v w ∧ Rel H x v
theorem Rv.tmp {t : Tmp} {x : AV} (h : oget n F (.tmp t) = some x) : Rv P c n (.tmp t) F L x := ⟨fun H w a _ hF => by
  have := hF.eval h
  exact ⟨_, rfl, this⟩⟩
theorem Rv.see {r : ResultVar} {x y : AV} (h : Rv P c n r F L x) (hs : Sb L x y) : Rv P c n r F L y := ⟨fun H w a hst hF => by
  obtain ⟨v, h1, h2⟩ := h.out H w a hst hF
  exact ⟨v, h1, hs.rel hst h2⟩⟩
variable {fn : Func} {Φ : AV → List Ent → Prop} {K : Exit → Act → World → Prop}
/-! loops -/
def cutF (ms : List Nat) (F : Fr) : Fr := F.filter fun p => !ms.contains p.1
theorem look_append (F G : Fr) (i : Nat) : look (F ++ G) i = (look F i).or (look G i) := by
  induction F with
  | nil => simp [look]
  | cons x F ih =>
    obtain ⟨d, v⟩ := x
    by_cases h : d = i
    · subst h; simp [look_cons_self]
    · rw [List.cons_append, look_cons_ne v _ h, look_cons_ne v _ h, ih]
theorem look_cutF (ms : List Nat) (F : Fr) (s : Nat) : look (cutF ms F) s = if s ∈ ms then none else look F s := by
  induction F with
  | nil => simp [cutF, look]
  | cons x F ih =>
    obtain ⟨d, v⟩ := x
    unfold cutF at ih ⊢
    by_cases hd : d ∈ ms
    · rw [List.filter_cons_of_neg (by simpa using hd), ih]
      by_cases hs : s ∈ ms
      · simp [hs]
      · have : d ≠ s := fun e => hs (e ▸ hd)
        simp [hs, look_cons_ne _ _ this]
    · rw [List.filter_cons_of_pos (by simpa using hd)]
      by_cases hs : d = s
      · subst hs; simp [look_cons_self, hd]
      · rw [look_cons_ne _ _ hs, ih, look_cons_ne _ _ hs]
/-- F says all that G says -/
def Says (F G : Fr) : Prop := ∀ s x, look G s = some x → look F s = some x
theorem Says.nil : Says F [] := fun s x h => by simp [look] at h
theorem Says.cons {G : Fr} {s : Nat} {x : AV} (h : look F s = some x) (t : Says F G) : Says F ((s, x) :: G) := fun i y hy => by
  by_cases e : s = i
  · subst e; rw [look_cons_self] at hy; rw [h]; exact hy
  · rw [look_cons_ne _ _ e] at hy; exact t i y hy
structure Kloop (c : Ctx) (n : Cfg) (F0 : Fr) {σ : Type} (p : σ → Prop) (I : σ → Fr) (J : σ → List Ent) (μ : σ → Nat) (s : σ) (Q K : Exit → Act → World → Prop) : Prop where
  norm : ∀ F L s', p s' → μ s' < μ s → Says F (I s' ++ F0) → (J s').Sublist L → Ex c n K .normal F L
  other : ∀ ds e F L, e ≠ .normal → Ex c ⟨n.n, ds, n.ro⟩ Q e F L → Ex c ⟨n.n, ds, n.ro⟩ K e F L
theorem Cx.loopS {x : Code} {σ : Type} (p : σ → Prop) (I : σ → Fr) (J : σ → List Ent) (μ : σ → Nat) (s0 : σ) (F0 : Fr) (hF0 : Says F F0) (hp : p s0) (h0 : Says F (I s0)) (hL0 : (J s0).Sublist L)
    (round : ∀ s, p s → ∀ K, Kloop c n F0 p I J μ s Q K → Cx P c n x K (I s ++ F0) (J s)) : Cx P c n (.loop x) Q F L :=
  ⟨fun H w a hs hF d => by
    have hw : ∀ {F' : Fr} {s : σ}, Says F' (I s) → (∀ t y, look F0 t = some y → look F' t = some y) → Says F' (I s ++ F0) := fun h1 h2 t y ht => by
      rw [look_append] at ht
      cases hI : look (I _) t with
      | some z => rw [hI] at ht; simp only [Option.some_or, Option.some.injEq] at ht; subst ht; exact h1 t _ hI
      | none => rw [hI] at ht; simp only [Option.none_or] at ht; exact h2 t y ht
    refine wpIn_loop_ghost (fun k a w => ∃ H s, μ s = k ∧ p s ∧ St c H w (J s) ∧ Fit H n (I s ++ F0) a) (μ s0) ⟨H, s0, rfl, hp, hs.sub hL0, hF.weak (hw h0 fun t y ht => ?_)⟩ ?_
    · exact hF0 t y ht
    · rintro k a w ⟨H, s, rfl, hps, hS, hFF⟩
      refine wpIn_mono ((round s hps (Exit.then (fun a' w' => ∃ H s', μ s' < μ s ∧ p s' ∧ St c H w' (J s') ∧ Fit H n (I s' ++ F0) a') Q) ⟨fun F L s' h1 h2 h3 h4 => ⟨fun H w a hs hF => ⟨H, s', h2, h1, hs.sub h4, hF.weak h3⟩⟩, fun _ e _ _ he k => ⟨fun H w a hs hF => by cases e <;> first | exact absurd rfl he | exact k.out H w a hs hF⟩⟩).out H w a hS hFF d) ?_
      intro e a' w' hq
      cases e with
      | normal =>
        obtain ⟨H, s', hlt, h2, h3, h4⟩ := hq
        exact ⟨μ s', hlt, H, s', rfl, h2, h3, h4⟩
      | exit id => exact hq
      | goto l => exact hq
      | ret => exact hq
      | panic ch => exact hq
      | outgrown => exact hq⟩
theorem Cx.loop {x : Code} {σ : Type} (ms : List Nat) (p : σ → Prop) (I : σ → Fr) (J : σ → List Ent) (μ : σ → Nat) (s0 : σ) (F0 : Fr) (hF0 : cutF ms F = F0) (hp : p s0) (h0 : Says F (I s0)) (hL0 : (J s0).Sublist L)
    (round : ∀ s, p s → ∀ K, Kloop c n F0 p I J μ s Q K → Cx P c n x K (I s ++ F0) (J s)) : Cx P c n (.loop x) Q F L :=
  Cx.loopS p I J μ s0 F0 (fun t y ht => by
    rw [← hF0, look_cutF] at ht
    split at ht
    · cases ht
    · exact ht) hp h0 hL0 round
variable {σ : Type} {p : σ → Prop} {I : σ → Fr} {J : σ → List Ent} {μ : σ → Nat} {s : σ} {F0 : Fr}
/-- the round's end; A: what stands ahead of the old frame -/
theorem says_next {A : Fr} {ms : List Nat} {G : Fr} (hA : (A.all fun q => ms.contains q.1) = true) (hG : (G.all fun q => !ms.contains q.1) = true) : ∀ t y, look G t = some y → look (A ++ G) t = some y := fun t y ht => by
  rw [look_append]
  have hk : ∀ {X : Fr} {z : AV}, look X t = some z → ∃ q ∈ X, q.1 = t := fun {X z} h => by
    induction X with
    | nil => simp [look] at h
    | cons q X ih =>
      obtain ⟨d, v⟩ := q
      by_cases e : d = t
      · exact ⟨(d, v), by simp, e⟩
      · rw [look_cons_ne _ _ e] at h
        obtain ⟨q, hq, e⟩ := ih h
        exact ⟨q, by simp [hq], e⟩
  cases hA' : look A t with
  | none => simpa using ht
  | some z =>
    obtain ⟨q, hq, e⟩ := hk hA'
    obtain ⟨q', hq', e'⟩ := hk ht
    have h1 := List.all_eq_true.1 hA q hq
    have h2 := List.all_eq_true.1 hG q' hq'
    rw [e] at h1
    rw [e', h1] at h2
    cases h2
theorem Ex.next (hk : Kloop c n F0 p I J μ s Q K) (s' : σ) (ms : List Nat) (hd : F.drop (F.length - F0.length) = F0) (hA : ((F.take (F.length - F0.length)).all fun q => ms.contains q.1) = true) (hG : (F0.all fun q => !ms.contains q.1) = true)
    (hp : p s') (hμ : μ s' < μ s) (hI : Says F (I s')) (hL : (J s').Sublist L) : Ex c n K .normal F L :=
  hk.norm F L s' hp hμ (fun t y ht => by
    rw [look_append] at ht
    cases hI' : look (I s') t with
    | some z => rw [hI'] at ht; simp only [Option.some_or, Option.some.injEq] at ht; subst ht; exact hI t _ hI'
    | none =>
      rw [hI'] at ht
      simp only [Option.none_or] at ht
      have h1 := says_next hA hG t y ht
      have h2 := List.take_append_drop (F.length - F0.length) F
      rw [hd] at h2
      rwa [h2] at h1) hL
end rules
end Go.E2
namespace Go.E2
open Go.RowKit

/-! facts on types -/
def isAggD : TypeDesc → Bool
  | .struct _ => true
  | .array _ _ => true
  | _ => false
structure OneT (P : Program) (t : TypeId) : Prop where
  und : ∃ d, P.underlying t = some d ∧ isAggD d = false
  size : (P.info? t).map (·.size) = some 1
structure AggT (P : Program) (t : TypeId) (k : Nat) : Prop where
  und : ∃ d, P.underlying t = some d ∧ isAggD d = true
  size : (P.info? t).map (·.size) = some k
structure SlcT (P : Program) (t e : TypeId) (k : Nat) : Prop where
  und : P.underlying t = some (.slice e)
  size : (P.info? e).map (·.size) = some k
structure ArrT (P : Program) (t : TypeId) (len : Nat) (e : TypeId) (k : Nat) : Prop where
  und : P.underlying t = some (.array len e)
  size : (P.info? e).map (·.size) = some k
/-- field i of struct s lies at offset off -/
structure FldT (P : Program) (s i off : Nat) : Prop where
  out : ∃ fs f, P.underlying s = some (.struct fs) ∧ fs[i]? = some f ∧ f.offset = off ∧ (P.info? f.type).map (fun x => decide (x.size = 0)) = some false
structure ZeroT (P : Program) (t : TypeId) (cs : List Value) : Prop where
  out : ∃ z, (P.info? t).bind (·.zero) = some z ∧ z.cells.toList = cs
def EntersT (P : Program) (f : FuncId) : Prop := ∀ args w, (callFunc f args).run P w = .ok (.enter f args) w
theorem enters_of {P : Program} {f : FuncId} {fn : Func} {c : Code} {s : String} (hf : P.funcs[f]? = some fn) (hs : fn.name = s) (hn : ¬ s = "runtime.NumGoroutine") (hb : fn.body = some c) : EntersT P f := by
  intro args w
  have h1 : fn.name ≠ "runtime.NumGoroutine" := by rw [hs]; exact hn
  simp [callFunc, hf, h1, hb, mark]
theorem run_sizeOf' {P : Program} {t : TypeId} {k : Nat} (h : (P.info? t).map (·.size) = some k) (w : World) : (sizeOf t).run P w = .ok k w := by
  cases hi : P.info? t with
  | none => rw [hi] at h; cases h
  | some i =>
    rw [hi] at h
    simp at h
    simp [sizeOf, typeInfo, hi, h]
theorem run_und {P : Program} {t : TypeId} {d : TypeDesc} (h : P.underlying t = some d) (w : World) : (underlying t).run P w = .ok d w := by
  simp [underlying, h]
theorem run_isAgg_f {P : Program} {t : TypeId} (h : OneT P t) (w : World) : (isAgg t).run P w = .ok false w := by
  obtain ⟨d, hd, ha⟩ := h.und
  simp only [isAgg, Sem.run_bind, run_und hd, Result.andThen_ok]
  cases d <;> simp_all [isAggD]
theorem run_isAgg_t {P : Program} {t : TypeId} {k : Nat} (h : AggT P t k) (w : World) : (isAgg t).run P w = .ok true w := by
  obtain ⟨d, hd, ha⟩ := h.und
  simp only [isAgg, Sem.run_bind, run_und hd, Result.andThen_ok]
  cases d <;> simp_all [isAggD]
theorem run_eql_bool {P : Program} {t : TypeId} (hh : ∀ c e w, (Op.equal t (.bool c) (.bool e)).run P w = .ok (c == e) w) (c e : Bool) (w : World) : (binOp .eql t (.bool c) (.bool e)).run P w = .ok (.bool (c == e)) w ∧ (binOp .neq t (.bool c) (.bool e)).run P w = .ok (.bool (c != e)) w := by
  constructor
  · show (Sem.run P (do pure (.bool (← Op.equal t (.bool c) (.bool e)))) w : Result Value) = _
    rw [Sem.run_bind, hh]; rfl
  · show (Sem.run P (do pure (.bool (!(← Op.equal t (.bool c) (.bool e))))) w : Result Value) = _
    rw [Sem.run_bind, hh]
    cases c <;> cases e <;> rfl
theorem run_equal_bool {P : Program} {t : TypeId} (ht : P.underlying t = some .bool) (c e : Bool) (w : World) : (Op.equal t (.bool c) (.bool e)).run P w = .ok (c == e) w := by
  unfold Op.equal
  rw [show Op.maxDepth = (Op.maxDepth - 1) + 1 from rfl]
  simp only [Op.equalIn, Sem.run_bind, run_und ht, Result.andThen_ok]
  rfl
theorem run_eqGuard_str {P : Program} (op : BinOp) (t : TypeId) (o1 o2 : Operand) (x y : ByteArray) (w : World) : (eqGuard op t o1 o2 (.string x) (.string y)).run P w = .ok () w := by
  unfold eqGuard
  by_cases h : (!(op matches .eql | .neq)) = true
  · simp []
  · simp []
/-- of one cell -/
def AV.one : AV → Bool
  | .agg _ => false
  | .tup _ => false
  | .opt _ _ => false
  | .v (.agg _) => false
  | .v (.tuple _) => false
  | _ => true
/-- neither a tuple nor a whole that is hidden -/
def AV.ok : AV → Bool
  | .tup _ => false
  | .opt _ _ => false
  | .v (.agg _) => false
  | .v (.tuple _) => false
  | _ => true
theorem Rel.cells {H : Cells} {a : AV} {v : Value} (h : Rel H a v) (ho : a.ok = true) : RelL H a.cells v.cells.toList := by
  cases h with
  | v => cases v <;> first | (simp [AV.ok] at ho; done) | exact .cons (.v _) .nil
  | agg h => simpa [AV.cells, Value.cells] using h
  | tup h => simp [AV.ok] at ho
  | sl0 h => exact .cons (.sl0 h) .nil
  | sl h h1 h2 => exact .cons (.sl h h1 h2) .nil
  | fp h => exact .cons (.fp h) .nil
  | fn h => exact .cons (.fn h) .nil
  | opt h h' => simp [AV.ok] at ho
theorem Rel.one {H : Cells} {a : AV} {v : Value} (h : Rel H a v) (ho : a.one = true) : v.oneCell' = true ∧ v.cells = #[v] ∧ a.cells = [a] := by
  cases h with
  | v => cases v <;> simp_all [AV.one, Value.oneCell', Value.cells, AV.cells]
  | agg h => simp [AV.one] at ho
  | tup h => simp [AV.one] at ho
  | opt h h' => simp [AV.one] at ho
  | _ => simp [Value.oneCell', Value.cells, AV.cells]
theorem RelL.oneAll {H : Cells} : ∀ {as : List AV} {vs : List Value}, RelL H as vs → (as.all AV.one) = true → ∀ v ∈ vs, v.oneCell' = true
  | _, _, .nil, _ => by simp
  | _, _, .cons h t, ho => by
    simp only [List.all_cons, Bool.and_eq_true] at ho
    intro v hv
    rcases List.mem_cons.1 hv with rfl | hv
    · exact (h.one ho.1).1
    · exact RelL.oneAll t ho.2 v hv

section ops
variable {P : Program} {c : Ctx} {n : Cfg} {F : Fr} {L : List Ent} {ty : TypeId} {H : Cells} {ρ : Operand → Value}
theorem Reads.v {xs : Array Operand} {x : Operand} {u : Value} (h : Reads H n F xs ρ) (hm : x ∈ xs) (hx : oget n F x = some (.v u)) : ρ x = u := (h x hm _ hx).inv
theorem Gr.move {x : Operand} {a : AV} (h : oget n F x = some a) : Gr P c n (.move x) ty F L a := .pure fun H w ρ _ hr d pos aft g => ⟨_, by simp [execOp], hr x (by simp [Op.operands]) _ h⟩
theorem Gr.assign {x : Operand} {a : AV} (h : oget n F x = some a) : Gr P c n (.assign x) ty F L a := .pure fun H w ρ _ hr d pos aft g => ⟨_, by simp [execOp], hr x (by simp [Op.operands]) _ h⟩
section
variable {x y : Operand} {a b : Int} {t t' : TypeId} {k : IntKind}
theorem Gr.addW (hx : oget n F x = some (.v (.int k a))) (hy : oget n F y = some (.v (.int k b))) : Gr P c n (.binOp .add t x y t') ty F L (.v (.int k (k.wrap (a + b)))) :=
  .pure fun H w ρ _ hr d pos aft g => ⟨_, by simp [execOp, hr.v (by simp [Op.operands]) hx, hr.v (by simp [Op.operands]) hy, eqGuard_add, binOp_add, Op.intArith] <;> rfl, .v _⟩
theorem Gr.subW (hx : oget n F x = some (.v (.int k a))) (hy : oget n F y = some (.v (.int k b))) : Gr P c n (.binOp .sub t x y t') ty F L (.v (.int k (k.wrap (a - b)))) :=
  .pure fun H w ρ _ hr d pos aft g => ⟨_, by simp [execOp, hr.v (by simp [Op.operands]) hx, hr.v (by simp [Op.operands]) hy, eqGuard_sub, binOp_sub, Op.intArith] <;> rfl, .v _⟩
theorem Gr.mulW (hx : oget n F x = some (.v (.int k a))) (hy : oget n F y = some (.v (.int k b))) : Gr P c n (.binOp .mul t x y t') ty F L (.v (.int k (k.wrap (a * b)))) :=
  .pure fun H w ρ _ hr d pos aft g => ⟨_, by simp [execOp, hr.v (by simp [Op.operands]) hx, hr.v (by simp [Op.operands]) hy, eqGuard_mul, binOp_mul, Op.intArith] <;> rfl, .v _⟩
theorem Gr.add (hx : oget n F x = some (.v (.int .i64 a))) (hy : oget n F y = some (.v (.int .i64 b))) (hr : -9223372036854775808 ≤ a + b ∧ a + b ≤ 9223372036854775807) : Gr P c n (.binOp .add t x y t') ty F L (I (a + b)) :=
  (Gr.addW hx hy).ofEq (by rw [IntWalk.i64_in _ hr])
theorem Gr.sub (hx : oget n F x = some (.v (.int .i64 a))) (hy : oget n F y = some (.v (.int .i64 b))) (hr : -9223372036854775808 ≤ a - b ∧ a - b ≤ 9223372036854775807) : Gr P c n (.binOp .sub t x y t') ty F L (I (a - b)) :=
  (Gr.subW hx hy).ofEq (by rw [IntWalk.i64_in _ hr])
theorem Gr.mul (hx : oget n F x = some (.v (.int .i64 a))) (hy : oget n F y = some (.v (.int .i64 b))) (hr : -9223372036854775808 ≤ a * b ∧ a * b ≤ 9223372036854775807) : Gr P c n (.binOp .mul t x y t') ty F L (I (a * b)) :=
  (Gr.mulW hx hy).ofEq (by rw [IntWalk.i64_in _ hr])
theorem Gr.quo (hx : oget n F x = some (.v (.int .i64 a))) (hy : oget n F y = some (.v (.int .i64 b))) (hb : b ≠ 0) (hr : -9223372036854775808 ≤ a.tdiv b ∧ a.tdiv b ≤ 9223372036854775807) : Gr P c n (.binOp .quo t x y t') ty F L (I (a.tdiv b)) :=
  .pure fun H w ρ _ hr' d pos aft g => ⟨_, by simp [execOp, hr'.v (by simp [Op.operands]) hx, hr'.v (by simp [Op.operands]) hy, eqGuard_quo, binOp_quo, Op.intDiv, hb, IntWalk.i64_in _ hr] <;> rfl, .v _⟩
theorem Gr.quoN (hx : oget n F x = some (.v (.int .i64 a))) (hy : oget n F y = some (.v (.int .i64 b))) (h0 : 0 ≤ a) (h1 : 1 ≤ b) (hr : a ≤ 9223372036854775807) : Gr P c n (.binOp .quo t x y t') ty F L (I (a / b)) := by
  have e := Int.tdiv_eq_ediv_of_nonneg (b := b) h0
  have h2 := Int.ediv_nonneg h0 (by omega : 0 ≤ b)
  have h3 := Int.ediv_le_self b h0
  exact (Gr.quo hx hy (by omega) (by rw [e]; omega)).ofEq (by rw [e])
theorem Gr.rem (hx : oget n F x = some (.v (.int k a))) (hy : oget n F y = some (.v (.int k b))) (hb : b ≠ 0) : Gr P c n (.binOp .rem t x y t') ty F L (.v (.int k (a.tmod b))) :=
  .pure fun H w ρ _ hr' d pos aft g => ⟨_, by simp [execOp, hr'.v (by simp [Op.operands]) hx, hr'.v (by simp [Op.operands]) hy, eqGuard_rem, binOp_rem, Op.intDiv, hb] <;> rfl, .v _⟩
theorem Gr.remN (hx : oget n F x = some (.v (.int k a))) (hy : oget n F y = some (.v (.int k b))) (h0 : 0 ≤ a) (h1 : 1 ≤ b) : Gr P c n (.binOp .rem t x y t') ty F L (.v (.int k (a % b))) :=
  (Gr.rem hx hy (by omega)).ofEq (by rw [Int.tmod_eq_emod_of_nonneg h0])
theorem Gr.lss (hx : oget n F x = some (.v (.int k a))) (hy : oget n F y = some (.v (.int k b))) : Gr P c n (.binOp .lss t x y t') ty F L (B (decide (a < b))) :=
  .pure fun H w ρ _ hr' d pos aft g => ⟨_, by simp [execOp, hr'.v (by simp [Op.operands]) hx, hr'.v (by simp [Op.operands]) hy, eqGuard_lss, binOp_lss] <;> rfl, .v _⟩
theorem Gr.leq (hx : oget n F x = some (.v (.int k a))) (hy : oget n F y = some (.v (.int k b))) : Gr P c n (.binOp .leq t x y t') ty F L (B (decide (a ≤ b))) :=
  .pure fun H w ρ _ hr' d pos aft g => ⟨_, by simp [execOp, hr'.v (by simp [Op.operands]) hx, hr'.v (by simp [Op.operands]) hy, eqGuard_leq, binOp_leq] <;> rfl, .v _⟩
theorem Gr.gtr (hx : oget n F x = some (.v (.int k a))) (hy : oget n F y = some (.v (.int k b))) : Gr P c n (.binOp .gtr t x y t') ty F L (B (decide (b < a))) :=
  .pure fun H w ρ _ hr' d pos aft g => ⟨_, by simp [execOp, hr'.v (by simp [Op.operands]) hx, hr'.v (by simp [Op.operands]) hy, eqGuard_gtr, binOp_gtr] <;> rfl, .v _⟩
theorem Gr.geq (hx : oget n F x = some (.v (.int k a))) (hy : oget n F y = some (.v (.int k b))) : Gr P c n (.binOp .geq t x y t') ty F L (B (decide (b ≤ a))) :=
  .pure fun H w ρ _ hr' d pos aft g => ⟨_, by simp [execOp, hr'.v (by simp [Op.operands]) hx, hr'.v (by simp [Op.operands]) hy, eqGuard_geq, binOp_geq] <;> rfl, .v _⟩
theorem Gr.eql (hx : oget n F x = some (.v (.int k a))) (hy : oget n F y = some (.v (.int k b))) : Gr P c n (.binOp .eql t x y t') ty F L (B (decide (a = b))) :=
  .pure fun H w ρ _ hr' d pos aft g => ⟨.bool (decide (a = b)), by simp [execOp, hr'.v (by simp [Op.operands]) hx, hr'.v (by simp [Op.operands]) hy, eqGuard_at_int, binOp_eql] <;> rfl, .v _⟩
theorem Gr.neq (hx : oget n F x = some (.v (.int k a))) (hy : oget n F y = some (.v (.int k b))) : Gr P c n (.binOp .neq t x y t') ty F L (B (decide (a ≠ b))) :=
  .pure fun H w ρ _ hr' d pos aft g => ⟨.bool (decide (a ≠ b)), by simp [execOp, hr'.v (by simp [Op.operands]) hx, hr'.v (by simp [Op.operands]) hy, eqGuard_at_int, binOp_neq] <;> rfl, .v _⟩
theorem Gr.eqlB {p q : Bool} (ht : P.underlying t = some .bool) (hx : oget n F x = some (.v (.bool p))) (hy : oget n F y = some (.v (.bool q))) : Gr P c n (.binOp .eql t x y t') ty F L (B (p == q)) :=
  .pure fun H w ρ _ hr' d pos aft g => ⟨.bool (p == q), by simp [execOp, hr'.v (by simp [Op.operands]) hx, hr'.v (by simp [Op.operands]) hy, eqGuard_at_bool, (run_eql_bool (run_equal_bool ht) p q w).1], .v _⟩
theorem Gr.neqB {p q : Bool} (ht : P.underlying t = some .bool) (hx : oget n F x = some (.v (.bool p))) (hy : oget n F y = some (.v (.bool q))) : Gr P c n (.binOp .neq t x y t') ty F L (B (p != q)) :=
  .pure fun H w ρ _ hr' d pos aft g => ⟨.bool (p != q), by simp [execOp, hr'.v (by simp [Op.operands]) hx, hr'.v (by simp [Op.operands]) hy, eqGuard_at_bool, (run_eql_bool (run_equal_bool ht) p q w).2], .v _⟩
theorem Gr.not {p : Bool} (hx : oget n F x = some (.v (.bool p))) : Gr P c n (.unOp .not t x) ty F L (B (!p)) :=
  .pure fun H w ρ _ hr' d pos aft g => ⟨_, by simp [execOp, hr'.v (by simp [Op.operands]) hx, Op.unary] <;> rfl, .v _⟩
theorem Gr.negW (hx : oget n F x = some (.v (.int k a))) : Gr P c n (.unOp .neg t x) ty F L (.v (.int k (k.wrap (-a)))) :=
  .pure fun H w ρ _ hr' d pos aft g => ⟨_, by simp [execOp, hr'.v (by simp [Op.operands]) hx, Op.unary, Op.intArith] <;> rfl, .v _⟩
theorem Gr.neg (hx : oget n F x = some (.v (.int .i64 a))) (hr : -9223372036854775808 ≤ -a ∧ -a ≤ 9223372036854775807) : Gr P c n (.unOp .neg t x) ty F L (I (-a)) :=
  (Gr.negW hx).ofEq (by rw [IntWalk.i64_in _ hr])
/-! strings -/
theorem Gr.eqlT {p q : ByteArray} (hx : oget n F x = some (.v (.string p))) (hy : oget n F y = some (.v (.string q))) : Gr P c n (.binOp .eql t x y t') ty F L (B (p.toList == q.toList)) :=
  .pure fun H w ρ _ hr' d pos aft g => ⟨.bool (p.toList == q.toList), by simp [execOp, hr'.v (by simp [Op.operands]) hx, hr'.v (by simp [Op.operands]) hy, run_eqGuard_str, binOp, Op.stringOp], .v _⟩
theorem Gr.neqT {p q : ByteArray} (hx : oget n F x = some (.v (.string p))) (hy : oget n F y = some (.v (.string q))) : Gr P c n (.binOp .neq t x y t') ty F L (B (!(p.toList == q.toList))) :=
  .pure fun H w ρ _ hr' d pos aft g => ⟨.bool (!(p.toList == q.toList)), by simp [execOp, hr'.v (by simp [Op.operands]) hx, hr'.v (by simp [Op.operands]) hy, run_eqGuard_str, binOp, Op.stringOp], .v _⟩
theorem Gr.lssT {p q : ByteArray} (hx : oget n F x = some (.v (.string p))) (hy : oget n F y = some (.v (.string q))) : Gr P c n (.binOp .lss t x y t') ty F L (B (Op.bytesLess p.toList q.toList)) :=
  .pure fun H w ρ _ hr' d pos aft g => ⟨.bool (Op.bytesLess p.toList q.toList), by simp [execOp, hr'.v (by simp [Op.operands]) hx, hr'.v (by simp [Op.operands]) hy, run_eqGuard_str, binOp, Op.stringOp], .v _⟩
theorem Gr.lenT {p : ByteArray} (ht : P.underlying t = some .string) (hx : oget n F x = some (.v (.string p))) : Gr P c n (.call ⟨.builtin .len, #[x], #[t]⟩) ty F L (I p.size) :=
  .pure fun H w ρ _ hr' d pos aft g => ⟨.int .i64 p.size, by simp [execOp, resolve, invoke, builtin, hr'.v (by simp [Op.operands, Call.operands]) hx, Builtin.len_, run_und ht, goInt], .v _⟩
theorem Gr.idxT {p : ByteArray} {q : IntKind} {u : UInt8} (ht : P.underlying t = some .string) (hx : oget n F x = some (.v (.string p))) (hy : oget n F y = some (.v (.int q a))) (h0 : 0 ≤ a) (hu : p[a.toNat]? = some u) : Gr P c n (.index t x y) ty F L (.v (.int .u8 u.toNat)) :=
  .pure fun H w ρ _ hr' d pos aft g => ⟨.int .u8 u.toNat, by simp [execOp, hr'.v (by simp [Op.operands]) hx, hr'.v (by simp [Op.operands]) hy, Instr.index, asIntOf, run_und ht, h0, hu], .v _⟩
end
theorem Gr.extract {x : Operand} {as : List AV} {i : Nat} {a : AV} (hx : oget n F x = some (.tup as)) (hv : as[i]? = some a) : Gr P c n (.extract x i) ty F L a :=
  .pure fun H w ρ _ hr d pos aft g => by
    obtain ⟨vs, e, h⟩ := (hr x (by simp [Op.operands]) _ hx).inv_tup
    obtain ⟨v, h1, h2⟩ := h.get hv
    exact ⟨v, by simp [execOp, e, Instr.extract, h1], h2⟩
theorem Gr.conv {src dst : TypeId} {x : Operand} {q k : IntKind} {a : Int} (hs : (P.underlying src).isSome = true) (hd : P.underlying dst = some (.int k)) (hx : oget n F x = some (.v (.int q a))) : Gr P c n (.convert src dst x) ty F L (.v (.int k (k.wrap a))) :=
  .pure fun H w ρ _ hr d pos aft _ => by
    obtain ⟨dd, hd'⟩ := Option.isSome_iff_exists.mp hs
    exact ⟨_, by simp [execOp, hr.v (by simp [Op.operands]) hx, convert, run_und hd', run_und hd, Conv.intToInt] <;> rfl, .v _⟩
theorem Gr.toI {src dst : TypeId} {x : Operand} {q : IntKind} {a : Int} (hs : (P.underlying src).isSome = true) (hd : P.underlying dst = some (.int .i64)) (hx : oget n F x = some (.v (.int q a))) (hr : -9223372036854775808 ≤ a ∧ a ≤ 9223372036854775807) : Gr P c n (.convert src dst x) ty F L (I a) :=
  (Gr.conv hs hd hx).ofEq (by rw [IntWalk.i64_in _ hr])
theorem Gr.shr1 {t t' : TypeId} {x y : Operand} {q : IntKind} {a : Int} (hx : oget n F x = some (.v (.int .u64 a))) (hy : oget n F y = some (.v (.int q 1))) : Gr P c n (.binOp .shr t x y t') ty F L (.v (.int .u64 (a / 2))) :=
  .pure fun H w ρ _ hr d pos aft g => ⟨_, by simp [execOp, hr.v (by simp [Op.operands]) hx, hr.v (by simp [Op.operands]) hy, eqGuard_shr, binOp_shr, shift_shr .u64 q a 1 (by omega) (by decide)] <;> rfl, .v _⟩
theorem Gr.nilP {x : Operand} {a : Addr} (hx : oget n F x = some (.v (.pointer (some a)))) : Gr P c n (.nilCheck x) ty F L (.v (.pointer (some a))) :=
  .pure fun H w ρ _ hr d pos aft _ => ⟨_, by simp [execOp, hr.v (by simp [Op.operands]) hx] <;> rfl, .v _⟩
theorem Gr.nilF {x : Operand} {cs : List AV} {off : Nat} (hx : oget n F x = some (.fp cs off)) : Gr P c n (.nilCheck x) ty F L (.fp cs off) :=
  .pure fun H w ρ _ hr d pos aft _ => by
    have h := hr x (by simp [Op.operands]) _ hx
    obtain ⟨b, o, e, h2⟩ := h.inv_fp
    exact ⟨_, by simp [execOp, e] <;> rfl, by rw [← e]; exact h⟩
theorem Gr.max2 {x y : Operand} {a b : Int} {k : IntKind} {ts : Array TypeId} (hx : oget n F x = some (.v (.int k a))) (hy : oget n F y = some (.v (.int k b))) : Gr P c n (.call ⟨.builtin .max, #[x, y], ts⟩) ty F L (.v (.int k (max a b))) :=
  .pure fun H w ρ _ hr d pos aft _ => ⟨.int k (max a b), by
    have e : (if b > a then b else a) = max a b := by omega
    simp [execOp, resolve, invoke, builtin, hr.v (by simp [Op.operands, Call.operands]) hx, hr.v (by simp [Op.operands, Call.operands]) hy, run_max_int2, ← e], .v _⟩
theorem Gr.min2 {x y : Operand} {a b : Int} {k : IntKind} {ts : Array TypeId} (hx : oget n F x = some (.v (.int k a))) (hy : oget n F y = some (.v (.int k b))) : Gr P c n (.call ⟨.builtin .min, #[x, y], ts⟩) ty F L (.v (.int k (min a b))) :=
  .pure fun H w ρ _ hr d pos aft _ => ⟨.int k (min a b), by
    have e : (if b < a then b else a) = min a b := by omega
    simp [execOp, resolve, invoke, builtin, hr.v (by simp [Op.operands, Call.operands]) hx, hr.v (by simp [Op.operands, Call.operands]) hy, run_min_int2, ← e], .v _⟩

/-! operand lists -/
def ogets (n : Cfg) (F : Fr) : List Operand → Option (List AV)
  | [] => some []
  | x :: xs => match oget n F x with
    | some v => match ogets n F xs with
      | some vs => some (v :: vs)
      | none => none
    | none => none
theorem Reads.list {xs : List Operand} {as : List AV} {A : Array Operand} (h : Reads H n F A ρ) (hm : ∀ x ∈ xs, x ∈ A) (hx : ogets n F xs = some as) : RelL H as (xs.map ρ) := by
  induction xs generalizing as with
  | nil => simp only [ogets, Option.some.injEq] at hx; subst hx; exact .nil
  | cons x xs ih =>
    simp only [ogets] at hx
    cases h1 : oget n F x with
    | none => rw [h1] at hx; cases hx
    | some a =>
      rw [h1] at hx
      cases h2 : ogets n F xs with
      | none => rw [h2] at hx; cases hx
      | some as' =>
        rw [h2] at hx
        simp only [Option.some.injEq] at hx
        subst hx
        exact .cons (h x (hm x (by simp)) _ h1) (ih (fun y hy => hm y (by simp [hy])) h2)
theorem Gr.makeFunc {fn : Go.Fn} {xs : List Operand} {as : List AV} (h : ogets n F xs = some as) : Gr P c n (.makeFunc fn #[] xs.toArray) ty F L (.fn fn as) :=
  .pure fun H w ρ _ hr d pos aft g => by
    have := hr.list (xs := xs) (fun x hx => by simp [Op.operands, hx]) h
    exact ⟨.func fn #[] (xs.map ρ).toArray, by simp [execOp, Instr.makeFunc], .fn this⟩

/-! addresses, loads -/
theorem run_field {s i off : Nat} {a : Addr} (hf : FldT P s i off) (w : World) : (Instr.fieldAt s (.pointer (some a)) i).run P w = .ok (.pointer (some (a.add off))) w := by
  obtain ⟨fs, f, h1, h2, h3, h4⟩ := hf.out
  have hsz : (sizeOf f.type).run P w = .ok ((P.info? f.type).map (·.size) |>.getD 0) w ∧ ((P.info? f.type).map (·.size) |>.getD 0) ≠ 0 := by
    cases hi : P.info? f.type with
    | none => rw [hi] at h4; cases h4
    | some q =>
      rw [hi] at h4
      simp at h4
      exact ⟨by rw [run_sizeOf' (k := q.size) (by rw [hi]; rfl)]; rfl, by simpa using h4⟩
  simp [Instr.fieldAt, run_und h1, h2, Instr.sureAddr, fieldPlace, hsz.1, hsz.2, h3]
theorem Gr.field {s i off : Nat} {x : Operand} {a : Addr} (hf : FldT P s i off) (hx : oget n F x = some (.v (.pointer (some a)))) : Gr P c n (.fieldAddr s x i) ty F L (.v (.pointer (some (a.add off)))) :=
  .pure fun H w ρ _ hr d pos aft g => ⟨_, by simp [execOp, hr.v (by simp [Op.operands]) hx, run_field hf] <;> rfl, .v _⟩
/-- into a block of the local heap, the address reckoned -/
theorem Gr.fieldB {s i off : Nat} {x : Operand} {g o : Nat} (hf : FldT P s i off) (hx : oget n F x = some (.v (.pointer (some ⟨g, o, none⟩)))) : Gr P c n (.fieldAddr s x i) ty F L (.v (.pointer (some ⟨g, o + off, none⟩))) :=
  (Gr.field hf hx).ofEq (by unfold Addr.add; split <;> simp_all)
theorem Gr.fieldF {s i off : Nat} {x : Operand} {cs : List AV} {o : Nat} (hf : FldT P s i off) (hx : oget n F x = some (.fp cs o)) : Gr P c n (.fieldAddr s x i) ty F L (.fp cs (o + off)) :=
  .pure fun H w ρ _ hr d pos aft g => by
    obtain ⟨b, q, e, h2⟩ := (hr x (by simp [Op.operands]) _ hx).inv_fp
    refine ⟨.pointer (some ⟨b, q + (o + off), none⟩), ?_, .fp h2⟩
    have : (⟨b, q + o, none⟩ : Addr).add off = ⟨b, q + (o + off), none⟩ := by unfold Addr.add; split <;> simp_all; omega
    simp [execOp, e, run_field hf, this]
theorem blk_at {w : World} {i g : Nat} {T : TypeId} {z : Bool} {cs : List AV} (hs : St c H w L) (hL : L[i]? = some (.blk g T z cs)) : ∃ us, w.heap[g]? = some (.cells us.toArray T (0, 0)) ∧ RelL H cs us := by
  obtain ⟨_, us, h1, h2, _⟩ := hs.holds _ (List.mem_of_getElem? hL)
  exact ⟨us, h1, h2⟩
theorem run_load1 {t : TypeId} {w : World} {A : Addr} {u : Value} (ht : OneT P t) (hc : w.cell? A = some u) : (Instr.loadAt t (.pointer (some A))).run P w = .ok u w := by
  simp [Instr.loadAt, Instr.sureAddr, loadVar, run_isAgg_f ht, hc]
theorem run_loadA {t : TypeId} {k : Nat} {w : World} {b o : Nat} {us : List Value} (ht : AggT P t k) (hk : us.length = k) (hc : ∀ j u, us[j]? = some u → w.cell? ⟨b, o + j, none⟩ = some u) : (Instr.loadAt t (.pointer (some ⟨b, o, none⟩))).run P w = .ok (.agg us.toArray) w := by
  have hl := run_loadCells_list (P := P) w ⟨b, o, none⟩ us (fun j u hu => by
    have : (⟨b, o, none⟩ : Addr).add j = ⟨b, o + j, none⟩ := by unfold Addr.add; split <;> simp_all
    rw [this]; exact hc j u hu)
  rw [hk] at hl
  simp [Instr.loadAt, Instr.sureAddr, loadVar, run_isAgg_t ht, run_sizeOf' ht.size, hl]
theorem Gr.ldB {t T : TypeId} {x : Operand} {g off : Nat} {z : Bool} {cs : List AV} {r : AV} (ht : OneT P t) (hx : oget n F x = some (.v (.pointer (some ⟨g, off, none⟩)))) (i : Nat) (hL : L[i]? = some (.blk g T z cs)) (hv : cs[off]? = some r) :
    Gr P c n (.load t x) ty F L r :=
  .pure fun H w ρ hs hr d pos aft _ => by
    obtain ⟨us, h1, h2⟩ := blk_at hs hL
    obtain ⟨u, h3, h4⟩ := h2.get hv
    exact ⟨u, by simp [execOp, hr.v (by simp [Op.operands]) hx, run_load1 ht (show w.cell? ⟨g, off, none⟩ = some u by simp [World.cell?, h1, h3])], h4⟩
theorem Gr.ldBA {t T : TypeId} {k : Nat} {x : Operand} {g off : Nat} {z : Bool} {cs vs : List AV} (ht : AggT P t k) (hx : oget n F x = some (.v (.pointer (some ⟨g, off, none⟩)))) (i : Nat) (hL : L[i]? = some (.blk g T z cs)) (hv : (cs.drop off).take k = vs) (hk : Nat.beq vs.length k = true) :
    Gr P c n (.load t x) ty F L (.agg vs) :=
  .pure fun H w ρ hs hr d pos aft _ => by
    obtain ⟨us, h1, h2⟩ := blk_at hs hL
    have h3 := (h2.drop off).take k
    rw [hv] at h3
    have hk' : ((us.drop off).take k).length = k := by rw [← h3.len]; exact Nat.eq_of_beq_eq_true hk
    refine ⟨.agg ((us.drop off).take k).toArray, ?_, .agg h3⟩
    simp [execOp, hr.v (by simp [Op.operands]) hx, run_loadA ht hk' (b := g) (o := off) (w := w) (fun j u hu => by
      rw [List.getElem?_take, List.getElem?_drop] at hu
      split at hu
      · simpa [World.cell?, h1] using hu
      · cases hu)]
theorem Gr.ldF {t : TypeId} {x : Operand} {off : Nat} {cs : List AV} {r : AV} (ht : OneT P t) (hx : oget n F x = some (.fp cs off)) (hv : cs[off]? = some r) :
    Gr P c n (.load t x) ty F L r :=
  .pure fun H w ρ hs hr d pos aft _ => by
    obtain ⟨b, q, e, h2⟩ := (hr x (by simp [Op.operands]) _ hx).inv_fp
    obtain ⟨u, h3, h4⟩ := h2.get hv
    exact ⟨u, by simp [execOp, e, run_load1 ht (hs.hin _ _ _ h3)], h4⟩
theorem RelC.dropTake : ∀ {b o : Nat} {cs : List AV}, RelC H b o cs → ∀ off k, RelC H b (o + off) ((cs.drop off).take k) := by
  intro b o cs h off k
  obtain ⟨us, h1, h2⟩ := h.list
  refine RelC.of ((h1.drop off).take k) (fun i u hu => ?_)
  rw [List.getElem?_take, List.getElem?_drop] at hu
  split at hu
  · rw [show o + off + i = o + (off + i) by omega]; exact h2 _ _ hu
  · cases hu
theorem Gr.ldFA {t : TypeId} {k : Nat} {x : Operand} {off : Nat} {cs vs : List AV} (ht : AggT P t k) (hx : oget n F x = some (.fp cs off)) (hv : (cs.drop off).take k = vs) (hk : Nat.beq vs.length k = true) :
    Gr P c n (.load t x) ty F L (.agg vs) :=
  .pure fun H w ρ hs hr d pos aft _ => by
    obtain ⟨b, q, e, h2⟩ := (hr x (by simp [Op.operands]) _ hx).inv_fp
    have h3 := h2.dropTake off k
    rw [hv] at h3
    obtain ⟨us, h4, h5⟩ := h3.list
    refine ⟨.agg us.toArray, ?_, .agg h4⟩
    simp [execOp, e, run_loadA ht (by rw [← h4.len]; exact Nat.eq_of_beq_eq_true hk) (b := b) (o := q + off) (w := w) (fun j u hu => hs.hin _ _ _ (h5 j u hu))]
/-! slices that are read -/
theorem Gr.len {t e : TypeId} {k : Nat} {x : Operand} {a : AV} {xs : List AV} (ht : SlcT P t e k) (hx : oget n F x = some a) (hs : Sb L a (.sl k xs)) : Gr P c n (.call ⟨.builtin .len, #[x], #[t]⟩) ty F L (I xs.length) :=
  .pure fun H w ρ hst hr d pos aft _ => by
    obtain ⟨A, cap, e, _⟩ := (hs.rel hst (hr x (by simp [Op.operands, Call.operands]) _ hx)).inv_sl
    exact ⟨.int .i64 xs.length, by simp [execOp, resolve, invoke, builtin, e, Builtin.len_, run_und ht.und, goInt], .v _⟩
theorem Gr.idx {q : IntKind} {i : Int} {t e : TypeId} {k : Nat} {x y : Operand} {a r : AV} {xs : List AV} (ht : SlcT P t e k) (hx : oget n F x = some a) (hs : Sb L a (.sl k xs)) (hy : oget n F y = some (.v (.int q i))) (h0 : 0 ≤ i) (hv : xs[i.toNat]? = some r) :
    Gr P c n (.indexAddr t x y) ty F L (.fp r.cells 0) :=
  .pure fun H w ρ hst hr d pos aft _ => by
    obtain ⟨A, cap, e, h1, h2, h3⟩ := (hs.rel hst (hr x (by simp [Op.operands]) _ hx)).inv_sl
    obtain ⟨b, off, e2, h4⟩ := h3 (by rintro rfl; simp at hv)
    have hlt := (List.getElem?_eq_some_iff.1 hv).1
    have hlt' : i < xs.length := by omega
    obtain ⟨_, h5⟩ := h4.get hv
    refine ⟨.pointer (some ⟨b, off + i.toNat * k + 0, none⟩), ?_, .fp h5⟩
    have : (⟨b, off, none⟩ : Addr).add (i.toNat * k) = ⟨b, off + i.toNat * k, none⟩ := by unfold Addr.add; split <;> simp_all
    simp only [execOp, e, e2, hr.v (x := y) (by simp [Op.operands]) hy, Instr.indexAt, asIntOf]
    simp [run_und ht.und, h0, hlt', run_sizeOf' ht.size, this]
/-- s[l:h] of a slice that is read -/
theorem Gr.slc {q q' : IntKind} {i j : Int} {t e : TypeId} {k : Nat} {x y z : Operand} {a : AV} {xs : List AV} (ht : SlcT P t e k) (hx : oget n F x = some a) (hs : Sb L a (.sl k xs)) (hy : oget n F y = some (.v (.int q i))) (hz : oget n F z = some (.v (.int q' j))) (h0 : 0 ≤ i) (h1 : i ≤ j) (h2 : j ≤ xs.length) :
    Gr P c n (.slice t x (some y) (some z) none) ty F L (.sl k ((xs.drop i.toNat).take (j.toNat - i.toNat))) :=
  .pure fun H w ρ hst hr d pos aft _ => by
    obtain ⟨A, cap, e, g1, g2, g3⟩ := (hs.rel hst (hr x (by simp [Op.operands]) _ hx)).inv_sl
    have hrun : (execOp ρ ⟨d, .slice t x (some y) (some z) none, ty, pos, aft, by assumption⟩).run P w = .ok (.value (.slice (if cap = i.toNat then A else A.map (·.add (i.toNat * k))) (j.toNat - i.toNat) (cap - i.toNat))) w := by
      have c1 : 0 ≤ j ∧ j ≤ (cap : Int) := by omega
      have c2 : 0 ≤ i ∧ i ≤ (j.toNat : Int) := by omega
      simp only [execOp, Option.map_some, Option.map_none, e, hr.v (x := y) (by simp [Op.operands]) hy, hr.v (x := z) (by simp [Op.operands]) hz, Instr.sliceAt, Instr.slice, Instr.sliceBounds, Instr.sliceBound, asIntOf]
      simp [run_und ht.und, run_sizeOf' ht.size, c1, c2]
      intro hlt
      omega
    refine ⟨_, hrun, ?_⟩
    have hlen : ((xs.drop i.toNat).take (j.toNat - i.toNat)).length = j.toNat - i.toNat := by simp; omega
    by_cases hn : (xs.drop i.toNat).take (j.toNat - i.toNat) = []
    · rw [hn] at hlen ⊢
      simp only [List.length_nil] at hlen
      rw [← hlen]
      exact .sl0 (by omega)
    · obtain ⟨b, off, e2, h4⟩ := g3 (by rintro rfl; simp at hn)
      have hci : cap ≠ i.toNat := by
        intro hc
        apply hn
        apply List.eq_nil_of_length_eq_zero
        rw [hlen]; omega
      have : (⟨b, off, none⟩ : Addr).add (i.toNat * k) = ⟨b, off + i.toNat * k, none⟩ := by unfold Addr.add; split <;> simp_all
      rw [if_neg hci, e2, Option.map_some, this]
      have := Rel.sl (cap := cap - i.toNat) ((h4.drop i.toNat).take (j.toNat - i.toNat)) (by rw [hlen]; omega) (by omega)
      rwa [hlen] at this
theorem Gr.slcL {q : IntKind} {i : Int} {t e : TypeId} {k : Nat} {x y : Operand} {a : AV} {xs : List AV} (ht : SlcT P t e k) (hx : oget n F x = some a) (hs : Sb L a (.sl k xs)) (hy : oget n F y = some (.v (.int q i))) (h0 : 0 ≤ i) (h1 : i ≤ xs.length) :
    Gr P c n (.slice t x (some y) none none) ty F L (.sl k (xs.drop i.toNat)) :=
  .pure fun H w ρ hst hr d pos aft _ => by
    obtain ⟨A, cap, e, g1, g2, g3⟩ := (hs.rel hst (hr x (by simp [Op.operands]) _ hx)).inv_sl
    have hrun : (execOp ρ ⟨d, .slice t x (some y) none none, ty, pos, aft, by assumption⟩).run P w = .ok (.value (.slice (if cap = i.toNat then A else A.map (·.add (i.toNat * k))) (xs.length - i.toNat) (cap - i.toNat))) w := by
      have c2 : 0 ≤ i ∧ i ≤ (xs.length : Int) := by omega
      simp only [execOp, Option.map_some, Option.map_none, e, hr.v (x := y) (by simp [Op.operands]) hy, Instr.sliceAt, Instr.slice, Instr.sliceBounds, Instr.sliceBound, asIntOf]
      simp [run_und ht.und, run_sizeOf' ht.size, c2]
    refine ⟨_, hrun, ?_⟩
    have hlen : (xs.drop i.toNat).length = xs.length - i.toNat := by simp
    by_cases hn : xs.drop i.toNat = []
    · rw [hn] at hlen ⊢
      simp only [List.length_nil] at hlen
      rw [← hlen]
      exact .sl0 (by omega)
    · obtain ⟨b, off, e2, h4⟩ := g3 (by rintro rfl; simp at hn)
      have hci : cap ≠ i.toNat := by
        intro hc
        apply hn
        apply List.eq_nil_of_length_eq_zero
        rw [hlen]; omega
      have : (⟨b, off, none⟩ : Addr).add (i.toNat * k) = ⟨b, off + i.toNat * k, none⟩ := by unfold Addr.add; split <;> simp_all
      rw [if_neg hci, e2, Option.map_some, this]
      have := Rel.sl (cap := cap - i.toNat) (h4.drop i.toNat) (by rw [hlen]; omega) (by omega)
      rwa [hlen] at this
theorem Gr.slcH {q' : IntKind} {j : Int} {t e : TypeId} {k : Nat} {x z : Operand} {a : AV} {xs : List AV} (ht : SlcT P t e k) (hx : oget n F x = some a) (hs : Sb L a (.sl k xs)) (hz : oget n F z = some (.v (.int q' j))) (h1 : 0 ≤ j) (h2 : j ≤ xs.length) :
    Gr P c n (.slice t x none (some z) none) ty F L (.sl k (xs.take j.toNat)) :=
  .pure fun H w ρ hst hr d pos aft _ => by
    obtain ⟨A, cap, e, g1, g2, g3⟩ := (hs.rel hst (hr x (by simp [Op.operands]) _ hx)).inv_sl
    have hrun : (execOp ρ ⟨d, .slice t x none (some z) none, ty, pos, aft, by assumption⟩).run P w = .ok (.value (.slice A j.toNat cap)) w := by
      have c1 : 0 ≤ j ∧ j ≤ (cap : Int) := by omega
      simp only [execOp, Option.map_some, Option.map_none, e, hr.v (x := z) (by simp [Op.operands]) hz, Instr.sliceAt, Instr.slice, Instr.sliceBounds, Instr.sliceBound, asIntOf]
      have : ∀ A : Option Addr, A.map (fun a : Addr => a.add 0) = A := fun A => by cases A <;> simp [Addr.add]
      simp [run_und ht.und, run_sizeOf' ht.size, c1, this]
    refine ⟨_, hrun, ?_⟩
    have hlen : (xs.take j.toNat).length = j.toNat := by simp; omega
    by_cases hn : xs.take j.toNat = []
    · rw [hn] at hlen ⊢
      simp only [List.length_nil] at hlen
      rw [← hlen]
      exact .sl0 (by omega)
    · obtain ⟨b, off, e2, h4⟩ := g3 (by rintro rfl; simp at hn)
      rw [e2]
      have := Rel.sl (cap := cap) (h4.take j.toNat) (by rw [hlen]; omega) (by omega)
      rwa [hlen] at this
end ops
end Go.E2
namespace Go.E2
open Go.RowKit
section
variable {P : Program} {c : Ctx} {n : Cfg} {Q : Exit → Act → World → Prop} {F : Fr} {L : List Ent} {ops : Array Oper} {ty : TypeId}
variable {d : Option Tmp} {o : Op} {pos : String} {aft : Array Edge} {gd : Option (Nat × Bool)} {rest : List Oper} {H : Cells} {w : World}
theorem Lx.op (hg : wantB ops n F gd = some true)
    (h : ∀ H w a, St c H w L → Fit H n F a → ∃ nx w' v r H' L', (execOp a.eval ⟨d, o, ty, pos, aft, gd⟩).run P w = .ok nx w' ∧ ((nx = .value v) ∨ (nx = .skip ∧ v = undef)) ∧ H.le H' ∧ St c H' w' L' ∧ Rel H' r v ∧ Lx P c n ops Q rest (putF d r F) L') :
    Lx P c n ops Q (⟨d, o, ty, pos, aft, gd⟩ :: rest) F L :=
  ⟨fun H w a hs hF => by
    refine wpList_step fun K hK => ?_
    rw [if_pos (wanted_fit (o := ⟨d, o, ty, pos, aft, gd⟩) hF.size hF.rel hg)]
    obtain ⟨nx, w', v, r, H', L', hr, hn, hl, hs', hrel, hk⟩ := h H w a hs hF
    unfold Oper.wp
    rw [hr]
    rcases hn with rfl | ⟨rfl, rfl⟩
    · simp only [Oper.upon]; exact hK _ _ (hk.out H' w' _ hs' ((hF.mono hl).put hrel d))
    · simp only [Oper.upon]; exact hK _ _ (hk.out H' w' _ hs' ((hF.mono hl).put hrel d))⟩
theorem Lx.boxOf {t : TypeId} {x : Operand} {a : AV} {cs : List AV} (hg : wantB ops n F gd = some true) (hx : oget n F x = some a) (hok : a.ok = true) (hcs : a.cells = cs)
    (k : ∀ b, Lx P c n ops Q rest (putF d (.v (.pointer (some ⟨b, 0, none⟩))) F) (.blk b t false cs :: L)) : Lx P c n ops Q (⟨d, .box t x, ty, pos, aft, gd⟩ :: rest) F L :=
  Lx.op hg fun H w ac hs hF => by
    have hr := hF.eval hx
    have hc := hr.cells hok
    rw [hcs] at hc
    refine ⟨_, w.alloc (.cells (ac.eval x).cells.toList.toArray t), _, _, H, _, ?_, .inl rfl, Cells.le_refl _, hs.trans (St.new hs.hin t hc), .v _, k _⟩
    simp [execOp, Instr.box, newVar, newRow]
theorem Lx.boxA {t : TypeId} {x : Operand} {cs : List AV} (hg : wantB ops n F gd = some true) (hx : oget n F x = some (.agg cs))
    (k : ∀ b, Lx P c n ops Q rest (putF d (.v (.pointer (some ⟨b, 0, none⟩))) F) (.blk b t false cs :: L)) : Lx P c n ops Q (⟨d, .box t x, ty, pos, aft, gd⟩ :: rest) F L := Lx.boxOf hg hx rfl rfl k
theorem Lx.box1 {t : TypeId} {x : Operand} {a : AV} (hg : wantB ops n F gd = some true) (hx : oget n F x = some a) (h1 : a.one = true)
    (k : ∀ b, Lx P c n ops Q rest (putF d (.v (.pointer (some ⟨b, 0, none⟩))) F) (.blk b t false [a] :: L)) : Lx P c n ops Q (⟨d, .box t x, ty, pos, aft, gd⟩ :: rest) F L :=
  Lx.boxOf hg hx (by cases a <;> first | rfl | (cases h1; done) | (rename_i x; cases x <;> first | rfl | (cases h1; done))) (by cases a <;> first | rfl | (cases h1; done)) k
structure ZeroA (P : Program) (t : TypeId) (cs : List AV) : Prop where
  out : ∃ z, (P.info? t).bind (·.zero) = some z ∧ z.cells.toList.map AV.v = cs
theorem relL_v (H : Cells) : ∀ l : List Value, RelL H (l.map .v) l
  | [] => .nil
  | a :: l => .cons (.v a) (relL_v H l)
theorem Lx.alloc {t : TypeId} {cs : List AV} (hz : ZeroA P t cs) (hg : wantB ops n F gd = some true)
    (k : ∀ b, Lx P c n ops Q rest (putF d (.v (.pointer (some ⟨b, 0, none⟩))) F) (.blk b t false cs :: L)) : Lx P c n ops Q (⟨d, .alloc t, ty, pos, aft, gd⟩ :: rest) F L :=
  Lx.op hg fun H w a hs hF => by
    obtain ⟨z, h1, h2⟩ := hz.out
    refine ⟨_, w.alloc (.cells z.cells.toList.toArray t), _, _, H, _, ?_, .inl rfl, Cells.le_refl _, hs.trans (St.new hs.hin t (by rw [← h2]; exact relL_v H _)), .v _, k _⟩
    cases hi : P.info? t with
    | none => rw [hi] at h1; cases h1
    | some i =>
      rw [hi] at h1
      simp only [Option.bind_some] at h1
      simp [execOp, Instr.alloc, zeroValue, typeInfo, hi, h1, newVar, newRow]

/-! stores into a block -/
theorem St.setRow {i g : Nat} {T : TypeId} {cs cs' : List AV} {us' : List Value} (h : St c H w L) (hL : L[i]? = some (.blk g T false cs)) (hr : RelL H cs' us') : St c H (w.setRow g us'.toArray) (L.set i (.blk g T false cs')) := by
  obtain ⟨h1, us, h2, h3, h4, h5⟩ := h.holds _ (List.mem_of_getElem? hL)
  have hother : ∀ k, k ≠ g → (w.setRow g us'.toArray).heap[k]? = w.heap[k]? := fun k hk => by
    simp only [World.setRow, Array.getElem?_modify]
    rw [if_neg (by omega)]
  refine h.turn hL (hin_heap h.hin fun b o u hu => hother b (fun e => by subst e; rw [h4 rfl o] at hu; cases hu)) ⟨h1, us', setRow_heap w g _ _ T _ h2, hr, h4, fun h => by cases h⟩ ⟨rfl, rfl, rfl, by simp [World.setRow], fun k _ hk => hother k (fun e => hk (by rw [e]; rfl))⟩ (.inl rfl) (Nat.le_refl _)
theorem Lx.st1 {t T : TypeId} {x y : Operand} {g off : Nat} {cs : List AV} {r : AV} (ht : OneT P t) (hg : wantB ops n F gd = some true) (hx : oget n F x = some (.v (.pointer (some ⟨g, off, none⟩)))) (hy : oget n F y = some r) (i : Nat)
    (hL : L[i]? = some (.blk g T false cs)) (ho : Nat.blt off cs.length = true) (hu : r.one = true) (k : Lx P c n ops Q rest (putF d (.v undef) F) (L.set i (.blk g T false (cs.set off r)))) :
    Lx P c n ops Q (⟨d, .store t x y, ty, pos, aft, gd⟩ :: rest) F L :=
  Lx.op hg fun H w a hs hF => by
    obtain ⟨us, hb, hrel⟩ := blk_at hs hL
    have hyv := hF.eval hy
    obtain ⟨o1, o2, _⟩ := hyv.one hu
    have ho' : off < us.length := by rw [← hrel.len]; simpa [Nat.blt_eq] using ho
    have hcell : w.cell? ⟨g, off, none⟩ = some us[off] := by simp [World.cell?, hb, ho']
    have hfro : w.frozen? ⟨g, off, none⟩ = false := by simp [World.frozen?, hb]
    refine ⟨.skip, w.setCell ⟨g, off, none⟩ (a.eval y), undef, _, H, _, ?_, .inr ⟨rfl, rfl⟩, Cells.le_refl _, ?_, .v _, k⟩
    · simp [execOp, (hF.eval hx).inv, Instr.storeAt, Instr.sureAddr, storeVar, run_sizeOf' ht.size, o2, storeCells, Addr.add, run_store P w _ (a.eval y) _ o1, hcell, hfro]
    · rw [setCell_eq_setRow w g off _ T (0, 0) (a.eval y) hb]
      have := hs.setRow (cs' := cs.set off r) (us' := us.set off (a.eval y)) hL (hrel.set hyv off)
      simpa using this
/-- a struct stored over some cells of a block -/
theorem Lx.stA {t T : TypeId} {kk : Nat} {x y : Operand} {g off : Nat} {cs vs : List AV} (ht : AggT P t kk) (hg : wantB ops n F gd = some true) (hx : oget n F x = some (.v (.pointer (some ⟨g, off, none⟩)))) (hy : oget n F y = some (.agg vs)) (i : Nat)
    (hL : L[i]? = some (.blk g T false cs)) (hl : Nat.beq vs.length kk = true) (hl' : Nat.ble (off + kk) cs.length = true) (hu : vs.all AV.one = true) (k : Lx P c n ops Q rest (putF d (.v undef) F) (L.set i (.blk g T false (cs.take off ++ vs ++ cs.drop (off + kk))))) :
    Lx P c n ops Q (⟨d, .store t x y, ty, pos, aft, gd⟩ :: rest) F L :=
  Lx.op hg fun H w a hs hF => by
    obtain ⟨us, hb, hrel⟩ := blk_at hs hL
    obtain ⟨vv, e, hv⟩ := (hF.eval hy).inv_agg
    have h1 : vv.length = kk := by rw [← hv.len]; exact Nat.eq_of_beq_eq_true hl
    have h2 : off + kk ≤ us.length := by rw [← hrel.len]; exact Nat.le_of_ble_eq_true hl'
    have hst := run_storeCells_at (P := P) g off T vv 0 us.toArray w hb (by simp; omega) (fun v hm => hv.oneAll hu v hm)
    have e2 : (us.toArray.toList.take (off + 0) ++ vv ++ us.toArray.toList.drop (off + 0 + vv.length)) = us.take off ++ vv ++ us.drop (off + kk) := by simp [h1]
    rw [e2] at hst
    refine ⟨.skip, w.setRow g (us.take off ++ vv ++ us.drop (off + kk)).toArray, undef, _, H, _, ?_, .inr ⟨rfl, rfl⟩, Cells.le_refl _, hs.setRow hL (((hrel.take off).append hv).append (hrel.drop (off + kk))), .v _, k⟩
    simp [execOp, (hF.eval hx).inv, e, Instr.storeAt, Instr.sureAddr, storeVar, run_sizeOf' ht.size, Value.cells, h1] at hst ⊢
    simp [hst]
/-! calls -/
theorem run_call {f : FuncId} {x : Operand} {first cap : Array Value} {xs : List Operand} {ts : Array TypeId} {ρ : Operand → Value} (hf : EntersT P f) (hx : ρ x = .func (.func f) first cap) (w : World) :
    (execOp ρ ⟨d, .call ⟨.value x, xs.toArray, ts⟩, ty, pos, aft, gd⟩).run P w = .ok (.enter f (first ++ (xs.map ρ).toArray ++ cap)) w := by
  simp only [execOp, resolve, hx]
  simp [Deferred.ofValue, invoke, hf _ w]
theorem Gr.call {f : FuncId} {x : Operand} {xs : List Operand} {as' as : List AV} {ts : Array TypeId} {r : AV} (hf : EntersT P f) (hx : oget n F x = some (.v (.func (.func f) #[] #[]))) (hv : ogets n F xs = some as') (hsb : SbL L as' as) (hc : FnA P f as r) :
    Gr P c n (.call ⟨.value x, xs.toArray, ts⟩) ty F L r :=
  ⟨fun H w ρ hs hr d pos aft g => by
    rw [run_call hf (hr.v (by simp [Op.operands, Call.operands]) hx)]
    refine ⟨rfl, ?_⟩
    have h := hc.out H w (xs.map ρ) hs.hin (hsb.rel hs (hr.list (fun y hy => by simp [Op.operands, Call.operands, hy]) hv))
    rw [show (#[] ++ (xs.map ρ).toArray ++ #[] : Array Value) = (xs.map ρ).toArray by simp]
    refine Calls.mono h ?_
    rintro e w' ⟨v, a, H', E, rfl, ⟨rfl, rfl⟩, hrel, hst⟩
    exact ⟨v, H', rfl, hst, hrel⟩⟩
theorem Gr.callC {f : FuncId} {x : Operand} {xs : List Operand} {a : AV} {as' as caps : List AV} {ts : Array TypeId} {r : AV} (hf : EntersT P f) (hx : oget n F x = some a) (hsx : Sb L a (.fn (.func f) caps)) (hv : ogets n F xs = some as') (hsb : SbL L as' as) (hc : FnA P f (as ++ caps) r) :
    Gr P c n (.call ⟨.value x, xs.toArray, ts⟩) ty F L r :=
  ⟨fun H w ρ hs hr d pos aft g => by
    obtain ⟨vs, e, hcap⟩ := (hsx.rel hs (hr x (by simp [Op.operands, Call.operands]) _ hx)).inv_fn
    rw [run_call hf e]
    refine ⟨rfl, ?_⟩
    have h := hc.out H w (xs.map ρ ++ vs) hs.hin ((hsb.rel hs (hr.list (fun y hy => by simp [Op.operands, Call.operands, hy]) hv)).append hcap)
    rw [show (#[] ++ (xs.map ρ).toArray ++ vs.toArray : Array Value) = (xs.map ρ ++ vs).toArray by simp]
    refine Calls.mono h ?_
    rintro e w' ⟨v, a, H', E, rfl, ⟨rfl, rfl⟩, hrel, hst⟩
    exact ⟨v, H', rfl, hst, hrel⟩⟩
theorem Lx.call {f : FuncId} {x : Operand} {xs : List Operand} {as' as : List AV} {ts : Array TypeId} {Φ : AV → List Ent → Prop} (hf : EntersT P f) (hg : wantB ops n F gd = some true) (hx : oget n F x = some (.v (.func (.func f) #[] #[]))) (hv : ogets n F xs = some as') (hsb : SbL L as' as) (hc : FnE P f as Φ)
    (k : ∀ a E, Φ a E → Lx P c n ops Q rest (putF d a F) (E ++ L)) : Lx P c n ops Q (⟨d, .call ⟨.value x, xs.toArray, ts⟩, ty, pos, aft, gd⟩ :: rest) F L :=
  ⟨fun H w a hs hF => by
    refine wpList_step fun K hK => ?_
    rw [if_pos (wanted_fit (o := ⟨d, _, ty, pos, aft, gd⟩) hF.size hF.rel hg)]
    unfold Oper.wp
    have hr := hF.reads (Op.call ⟨.value x, xs.toArray, ts⟩).operands
    rw [run_call hf (hr.v (by simp [Op.operands, Call.operands]) hx)]
    simp only [Oper.upon]
    have h := hc.out H w (xs.map a.eval) hs.hin (hsb.rel hs (hr.list (fun y hy => by simp [Op.operands, Call.operands, hy]) hv))
    rw [show (#[] ++ (xs.map a.eval).toArray ++ #[] : Array Value) = (xs.map a.eval).toArray by simp]
    refine Calls.mono h ?_
    rintro e w' ⟨v, b, H', E, rfl, hp, hrel, hst⟩
    exact hK _ _ ((k b E hp).out H' w' _ (hs.trans hst) ((hF.mono hst.le).put hrel d))⟩

/-! results in cells -/
theorem Rv.cellA {t : TypeId} {a : Tmp} {k : Nat} {gg off : Nat} {T : TypeId} {z : Bool} {cs vs : List AV} (ht : AggT P t k) (hx : oget n F (.tmp a) = some (.v (.pointer (some ⟨gg, off, none⟩)))) (i : Nat) (hL : L[i]? = some (.blk gg T z cs)) (hv : (cs.drop off).take k = vs) (hk : Nat.beq vs.length k = true) :
    Rv P c n (.cell a t) F L (.agg vs) := ⟨fun H w ac hs hF => by
  obtain ⟨us, h1, h2⟩ := blk_at hs hL
  have h3 := (h2.drop off).take k
  rw [hv] at h3
  have hk' : ((us.drop off).take k).length = k := by rw [← h3.len]; exact Nat.eq_of_beq_eq_true hk
  have hl := run_loadCells_list (P := P) w ⟨gg, off, none⟩ ((us.drop off).take k) (fun j u hu => by
    have : (⟨gg, off, none⟩ : Addr).add j = ⟨gg, off + j, none⟩ := by unfold Addr.add; split <;> simp_all
    rw [this]
    rw [List.getElem?_take, List.getElem?_drop] at hu
    split at hu
    · simpa [World.cell?, h1] using hu
    · cases hu)
  rw [hk'] at hl
  have e := (hF.eval hx).inv
  simp only [Act.eval] at e
  refine ⟨.agg ((us.drop off).take k).toArray, ?_, .agg h3⟩
  simp [rvSem, e, asAddr, loadVar, run_isAgg_t ht, run_sizeOf' ht.size, hl]⟩
theorem Rv.cell1 {t : TypeId} {a : Tmp} {gg off : Nat} {T : TypeId} {z : Bool} {cs : List AV} {r : AV} (ht : OneT P t) (hx : oget n F (.tmp a) = some (.v (.pointer (some ⟨gg, off, none⟩)))) (i : Nat) (hL : L[i]? = some (.blk gg T z cs)) (hv : cs[off]? = some r) :
    Rv P c n (.cell a t) F L r := ⟨fun H w ac hs hF => by
  obtain ⟨us, h1, h2⟩ := blk_at hs hL
  obtain ⟨u, h3, h4⟩ := h2.get hv
  have hc : w.cell? ⟨gg, off, none⟩ = some u := by simp [World.cell?, h1, h3]
  have e := (hF.eval hx).inv
  simp only [Act.eval] at e
  refine ⟨u, ?_, h4⟩
  simp [rvSem, e, asAddr, loadVar, run_isAgg_f ht, hc]⟩

/-! struct literals -/
def ogetp (n : Cfg) (F : Fr) : List (Nat × Operand) → Option (List (Nat × AV))
  | [] => some []
  | (i, x) :: xs => match oget n F x with
    | some v => match ogetp n F xs with
      | some vs => some ((i, v) :: vs)
      | none => none
    | none => none
inductive RelP (H : Cells) : List (Nat × AV) → List (Nat × Value) → Prop
  | nil : RelP H [] []
  | cons {i : Nat} {a : AV} {v : Value} {as : List (Nat × AV)} {vs : List (Nat × Value)} (h : Rel H a v) (t : RelP H as vs) : RelP H ((i, a) :: as) ((i, v) :: vs)
theorem Reads.parts {xs : List (Nat × Operand)} {as : List (Nat × AV)} {A : Array Operand} {ρ : Operand → Value} (h : Reads H n F A ρ) (hm : ∀ p ∈ xs, p.2 ∈ A) (hx : ogetp n F xs = some as) : RelP H as (xs.map fun p => (p.1, ρ p.2)) := by
  induction xs generalizing as with
  | nil => simp only [ogetp, Option.some.injEq] at hx; subst hx; exact .nil
  | cons p xs ih =>
    obtain ⟨i, x⟩ := p
    simp only [ogetp] at hx
    cases h1 : oget n F x with
    | none => rw [h1] at hx; cases hx
    | some a =>
      rw [h1] at hx
      cases h2 : ogetp n F xs with
      | none => rw [h2] at hx; cases hx
      | some as' =>
        rw [h2] at hx
        simp only [Option.some.injEq] at hx
        subst hx
        exact .cons (h x (hm (i, x) (by simp)) _ h1) (ih (fun y hy => hm y (by simp [hy])) h2)
/-- the parts laid into the cells -/
def fillA (place : Nat → Option (Nat × Nat)) : List AV → List (Nat × AV) → Option (List AV)
  | cells, [] => some cells
  | cells, (i, a) :: rest => match place i with
    | none => none
    | some (off, size) => match a.ok && (Nat.beq a.cells.length size && Nat.ble (off + size) cells.length) with
      | true => fillA place (cells.take off ++ a.cells ++ cells.drop (off + size)) rest
      | false => none
theorem splice_fold (off : Nat) : ∀ (vs : List Value) (j : Nat) (cur : Array Value), off + j + vs.length ≤ cur.size → ((vs.zipIdx j).toArray.foldl (fun cs (p : Value × Nat) => cs.setIfInBounds (off + p.2) p.1) cur).toList = cur.toList.take (off + j) ++ vs ++ cur.toList.drop (off + j + vs.length)
  | [], j, cur, _ => by simp
  | v :: vs, j, cur, h => by
    have ih := splice_fold off vs (j + 1) (cur.setIfInBounds (off + j) v) (by simp at h ⊢; omega)
    simp only [List.zipIdx_cons, List.size_toArray, List.length_cons, List.foldl_toArray', List.foldl_cons] at ih ⊢
    rw [ih]
    apply List.ext_getElem?
    intro i
    simp only [List.length_cons] at h
    simp only [Array.toList_setIfInBounds, List.getElem?_append, List.getElem?_take, List.getElem?_drop, List.length_take, List.length_set, List.length_append, List.length_cons, List.getElem?_set, Array.length_toList, Array.getElem?_toList]
    rcases Nat.lt_trichotomy i (off + j) with hi | hi | hi
    · have e1 : i < off + (j + 1) := by omega
      have e2 : ¬ off + j = i := by omega
      simp only [show min (off + (j + 1)) cur.size = off + (j + 1) by omega, show min (off + j) cur.size = off + j by omega, e1, e2, hi, if_true, if_false]
      simp [show i < off + (j + 1) + vs.length by omega, show i < off + j + (vs.length + 1) by omega]
    · subst hi
      simp only [show min (off + (j + 1)) cur.size = off + (j + 1) by omega, show min (off + j) cur.size = off + j by omega]
      simp [show off + j < off + (j + 1) + vs.length by omega, show off + j < off + (j + 1) by omega, show off + j < cur.size by omega]
    · simp only [show min (off + (j + 1)) cur.size = off + (j + 1) by omega, show min (off + j) cur.size = off + j by omega]
      by_cases h2 : i < off + j + (vs.length + 1)
      · have : i < off + (j + 1) + vs.length := by omega
        simp only [h2, this, if_true, show ¬ i < off + (j + 1) by omega, show ¬ i < off + j by omega, if_false]
        rw [show i - (off + j) = (i - (off + (j + 1))) + 1 by omega, List.getElem?_cons_succ]
      · have : ¬ i < off + (j + 1) + vs.length := by omega
        simp only [h2, this, if_false]
        rw [show off + (j + 1) + vs.length + (i - (off + (j + 1) + vs.length)) = i by omega, show off + j + (vs.length + 1) + (i - (off + j + (vs.length + 1))) = i by omega]
        simp [show ¬ off + j = i by omega]
theorem fill_rel (place : Nat → Option (Nat × Nat)) : ∀ {as : List (Nat × AV)} {vs : List (Nat × Value)} {zs cs : List AV} {zv : List Value}, RelP H as vs → RelL H zs zv → fillA place zs as = some cs → ∃ us, Instr.fill place zv.toArray vs = some us.toArray ∧ RelL H cs us
  | _, _, zs, cs, zv, .nil, hz, h => by
    simp only [fillA, Option.some.injEq] at h
    subst h
    exact ⟨zv, by simp [Instr.fill], hz⟩
  | _, _, zs, cs, zv, .cons (i := i) (a := a) (v := v) hr t, hz, h => by
    simp only [fillA] at h
    cases hp : place i with
    | none => rw [hp] at h; cases h
    | some os =>
      obtain ⟨off, size⟩ := os
      rw [hp] at h
      simp only at h
      split at h
      · rename_i hc
        simp only [Bool.and_eq_true] at hc
        obtain ⟨hok, h1, h2⟩ := hc
        have h1 := Nat.eq_of_beq_eq_true h1
        have h2 := Nat.le_of_ble_eq_true h2
        have hcl := hr.cells hok
        have hs : v.cells.size = size := by have := hcl.len; rw [h1] at this; simpa using this.symm
        have hzl := hz.len
        obtain ⟨us, e, hu⟩ := fill_rel place t (((hz.take off).append hcl).append (hz.drop (off + size))) h
        refine ⟨us, ?_, hu⟩
        have hsp := splice_fold off v.cells.toList 0 zv.toArray (by simp; omega)
        have e3 : (Array.foldl (fun cs (p : Value × Nat) => cs.setIfInBounds (off + p.2) p.1) zv.toArray v.cells.zipIdx) = (zv.take off ++ v.cells.toList ++ zv.drop (off + size)).toArray := by
          apply Array.ext'
          rw [show v.cells.zipIdx = (v.cells.toList.zipIdx 0).toArray by apply Array.ext'; simp]
          rw [hsp]
          simp [hs]
        simp only [Instr.fill, hp]
        rw [if_neg (by simp [hs]; omega)]
        have e4 : (v.cells.zipIdx.foldl (fun cs x => match x with | (c, j) => cs.setIfInBounds (off + j) c) zv.toArray) = (zv.take off ++ v.cells.toList ++ zv.drop (off + size)).toArray := e3
        rw [e4]
        exact e
      · cases h
/-- the layout of a struct or an array -/
structure LayT (P : Program) (t : TypeId) (zs : List AV) (place : Nat → Option (Nat × Nat)) : Prop where
  out : ∃ z : Value, z.cells.toList.map AV.v = zs ∧ ∀ w vs us, Instr.fill place z.cells vs = some us → (Instr.build t vs.toArray).run P w = .ok (.agg us) w
structure BldT (P : Program) (t : TypeId) (ps : List (Nat × AV)) (cs : List AV) : Prop where
  out : ∃ zs place, LayT P t zs place ∧ fillA place zs ps = some cs
theorem lay_struct {t : TypeId} {z : Value} {fs : Array Field} {pl : Array (Nat × Nat)} {zs : List AV} (hz : (P.info? t).bind (·.zero) = some z) (hzs : z.cells.toList.map AV.v = zs) (hu : P.underlying t = some (.struct fs)) (hp : ∀ w, (fs.mapM (m := Sem) fun f => Prod.mk f.offset <$> sizeOf f.type).run P w = .ok pl w) : LayT P t zs (pl[·]?) :=
  ⟨z, hzs, fun w vs us hf => by
    cases hi : P.info? t with
    | none => rw [hi] at hz; cases hz
    | some i =>
      rw [hi] at hz
      simp only [Option.bind_some] at hz
      simp [Instr.build, zeroValue, typeInfo, hi, hz, run_und hu, hp w, hf]⟩
theorem lay_array {t e : TypeId} {len k : Nat} {z : Value} {zs : List AV} (hz : (P.info? t).bind (·.zero) = some z) (hzs : z.cells.toList.map AV.v = zs) (hu : ArrT P t len e k) : LayT P t zs (fun i => some (i * k, k)) :=
  ⟨z, hzs, fun w vs us hf => by
    cases hi : P.info? t with
    | none => rw [hi] at hz; cases hz
    | some i =>
      rw [hi] at hz
      simp only [Option.bind_some] at hz
      simp [Instr.build, zeroValue, typeInfo, hi, hz, run_und hu.und, run_sizeOf' hu.size, hf]⟩
theorem Gr.build {t : TypeId} {xs : List (Nat × Operand)} {ps : List (Nat × AV)} {cs : List AV} (hv : ogetp n F xs = some ps) (hb : BldT P t ps cs) : Gr P c n (.build t xs.toArray) ty F L (.agg cs) :=
  .pure fun H w ρ hs hr d pos aft _ => by
    obtain ⟨zs, place, ⟨z, hz, hl⟩, hf⟩ := hb.out
    have hp := hr.parts (xs := xs) (fun p hp => by simp only [Op.operands, List.mem_toArray, List.mem_map]; exact ⟨p, by simpa using hp, rfl⟩) hv
    obtain ⟨us, e, hu⟩ := fill_rel place hp (show RelL H zs z.cells.toList by rw [← hz]; exact relL_v H _) hf
    refine ⟨.agg us.toArray, ?_, .agg hu⟩
    have hrun := hl w _ _ e
    simp only [execOp]
    rw [show (xs.toArray.map fun x => match x with | (i, x) => (i, ρ x)) = (xs.map fun p => (p.1, ρ p.2)).toArray by simp]
    simp [hrun]
end
end Go.E2
