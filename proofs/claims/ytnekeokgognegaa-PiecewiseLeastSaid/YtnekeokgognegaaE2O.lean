/-
  The engine, part O: conditions of && and || without parting the ways.
  Conditions: none beyond the premises of each rule.
-/
import Derived.Test.YtnekeokgognegaaE2H
namespace Go.E2
open Go.RowKit
/-- a fact that is kept from sight -/
structure Hid (p : Prop) : Prop where
  mk ::
  out : p
section
variable {P : Program} {c : Ctx} {n : Cfg} {ops : Array Oper} {Q : Exit → Act → World → Prop} {F : Fr} {L : List Ent}
theorem Lx.weak {l : List Oper} (G : Fr) (hG : ∀ s y, look G s = some y → look F s = some y) (k : Lx P c n ops Q l G L) : Lx P c n ops Q l F L :=
  ⟨fun H w a hs hF => k.out H w a hs (hF.weak hG)⟩
/-- the operations l, run from F, leave r in slot d and turn no slots but ws -/
structure Sg (P : Program) (c : Ctx) (n : Cfg) (ops : Array Oper) (l : List Oper) (ws : List Nat) (F : Fr) (L : List Ent) (d : Nat) (r : AV) : Prop where
  out : ∀ Q rest, (∀ G, (∀ t y, t ∉ ws → look F t = some y → look G t = some y) → look G d = some r → Lx P c n ops Q rest G L) → Lx P c n ops Q (l ++ rest) F L
variable {ws : List Nat} {d : Nat} {r : AV}
theorem Sg.nil (h : look F d = some r) : Sg P c n ops [] ws F L d r := ⟨fun _ _ k => k F (fun _ _ _ h => h) h⟩
variable {d' : Nat} {o : Op} {ty : TypeId} {pos : String} {aft : Array Edge} {g : Option (Nat × Bool)} {l : List Oper}
theorem Sg.gr {r' : AV} (hg : wantB ops n F g = some true) (h : Gr P c n o ty F L r') (hw : ws.contains d' = true) (k : Sg P c n ops l ws ((d', r') :: F) L d r) : Sg P c n ops (⟨some d', o, ty, pos, aft, g⟩ :: l) ws F L d r :=
  ⟨fun Q rest kk => Lx.gr hg h (k.out Q rest fun G hG hd => kk G (fun t y ht hy => hG t y ht (by
    rw [look_cons_ne _ _ (fun e => ht (by subst e; simpa using hw))]; exact hy)) hd)⟩
theorem Sg.skip (hg : wantB ops n F g = some false) (hw : ws.contains d' = true) (k : Sg P c n ops l ws ((d', .v undef) :: F) L d r) : Sg P c n ops (⟨some d', o, ty, pos, aft, g⟩ :: l) ws F L d r :=
  ⟨fun Q rest kk => Lx.skip hg (k.out Q rest fun G hG hd => kk G (fun t y ht hy => hG t y ht (by
    rw [look_cons_ne _ _ (fun e => ht (by subst e; simpa using hw))]; exact hy)) hd)⟩
theorem all_not {ws : List Nat} {F : Fr} (hw : (F.all fun q => !ws.contains q.1) = true) : ∀ {t : Nat} {y : AV}, look F t = some y → t ∉ ws := by
  induction F with
  | nil => intro t y h; simp [look] at h
  | cons q F ih =>
    obtain ⟨e, v⟩ := q
    simp only [List.all_cons, Bool.and_eq_true] at hw
    intro t y h
    by_cases he : e = t
    · subst he
      have := hw.1
      simpa using this
    · rw [look_cons_ne _ _ he] at h
      exact ih hw.2 h
theorem Lx.andC {l1 l2 : List Oper} (s d : Nat) (ws : List Nat) {b : Bool} {v : Bool → Bool} (hs : look F s = some (B b)) (hw : (F.all fun q => !ws.contains q.1) = true)
    (h1 : b = true → Sg P c n ops l1 ws ((s, B true) :: F) L d (B (v true))) (h2 : b = false → Sg P c n ops l1 ws ((s, B false) :: F) L d (B (v false)))
    (hk : Lx P c n ops Q l2 ((d, B (v b)) :: F) L) : Lx P c n ops Q (l1 ++ l2) F L := by
  have key : ∀ b', b = b' → Sg P c n ops l1 ws ((s, B b') :: F) L d (B (v b')) → Lx P c n ops Q (l1 ++ l2) F L := by
    intro b' hb hS
    subst hb
    have := hS.out Q l2 fun G hG hd => hk.weak _ fun t y ht => by
      by_cases e : d = t
      · subst e; rw [look_cons_self] at ht; rw [hd]; exact ht
      · rw [look_cons_ne _ _ e] at ht
        refine hG t y (all_not hw ht) ?_
        by_cases e' : s = t
        · subst e'; rw [look_cons_self, ← hs]; exact ht
        · rw [look_cons_ne _ _ e']; exact ht
    exact ⟨fun H w a hst hF => this.out H w a hst (hF.shadow hs)⟩
  cases b with
  | true => exact key true rfl (h1 rfl)
  | false => exact key false rfl (h2 rfl)
theorem Lx.and {l : List Oper} (k s d : Nat) (ws : List Nat) {b x : Bool} (hs : look F s = some (B b)) (hw : (F.all fun q => !ws.contains q.1) = true)
    (h1 : b = true → Sg P c n ops (l.take k) ws ((s, B true) :: F) L d (B x)) (h2 : b = false → Sg P c n ops (l.take k) ws ((s, B false) :: F) L d (B false))
    (hk : Lx P c n ops Q (l.drop k) ((d, B (b && x)) :: F) L) : Lx P c n ops Q l F L := by
  have := Lx.andC (v := fun b => b && x) s d ws hs hw (by simpa using h1) (by simpa using h2) hk
  rwa [List.take_append_drop] at this
theorem Lx.or {l : List Oper} (k s d : Nat) (ws : List Nat) {b x : Bool} (hs : look F s = some (B b)) (hw : (F.all fun q => !ws.contains q.1) = true)
    (h1 : b = false → Sg P c n ops (l.take k) ws ((s, B false) :: F) L d (B x)) (h2 : b = true → Sg P c n ops (l.take k) ws ((s, B true) :: F) L d (B true))
    (hk : Lx P c n ops Q (l.drop k) ((d, B (b || x)) :: F) L) : Lx P c n ops Q l F L := by
  have := Lx.andC (v := fun b => b || x) s d ws hs hw (by simpa using h2) (by simpa using h1) hk
  rwa [List.take_append_drop] at this
theorem sg_split {l : List Oper} {k : Nat} {v : Bool → Bool} (s d' : Nat) (ws' : List Nat) {b : Bool} (hs : look F s = some (B b)) (hw : (F.all fun q => !ws'.contains q.1) = true) (hd : ws.contains d' = true)
    (h1 : b = true → Sg P c n ops (l.take k) ws' ((s, B true) :: F) L d' (B (v true))) (h2 : b = false → Sg P c n ops (l.take k) ws' ((s, B false) :: F) L d' (B (v false)))
    (hk : Sg P c n ops (l.drop k) ws ((d', B (v b)) :: F) L d r) : Sg P c n ops l ws F L d r :=
  ⟨fun Q rest kk => by
    have h := hk.out Q rest fun G hG hdd => kk G (fun t y ht hy => hG t y ht (by
      rw [look_cons_ne _ _ (fun e => ht (by subst e; simpa using hd))]; exact hy)) hdd
    have := Lx.andC s d' ws' hs hw h1 h2 h
    rwa [← List.append_assoc, List.take_append_drop] at this⟩
theorem Sg.and {l : List Oper} (k s d' : Nat) (ws' : List Nat) {b x : Bool} (hs : look F s = some (B b)) (hw : (F.all fun q => !ws'.contains q.1) = true) (hd : ws.contains d' = true)
    (h1 : b = true → Sg P c n ops (l.take k) ws' ((s, B true) :: F) L d' (B x)) (h2 : b = false → Sg P c n ops (l.take k) ws' ((s, B false) :: F) L d' (B false))
    (hk : Sg P c n ops (l.drop k) ws ((d', B (b && x)) :: F) L d r) : Sg P c n ops l ws F L d r :=
  sg_split (v := fun b => b && x) s d' ws' hs hw hd (by simpa using h1) (by simpa using h2) hk
theorem Sg.or {l : List Oper} (k s d' : Nat) (ws' : List Nat) {b x : Bool} (hs : look F s = some (B b)) (hw : (F.all fun q => !ws'.contains q.1) = true) (hd : ws.contains d' = true)
    (h1 : b = false → Sg P c n ops (l.take k) ws' ((s, B false) :: F) L d' (B x)) (h2 : b = true → Sg P c n ops (l.take k) ws' ((s, B true) :: F) L d' (B true))
    (hk : Sg P c n ops (l.drop k) ws ((d', B (b || x)) :: F) L d r) : Sg P c n ops l ws F L d r :=
  sg_split (v := fun b => b || x) s d' ws' hs hw hd (by simpa using h2) (by simpa using h1) hk
end
end Go.E2
