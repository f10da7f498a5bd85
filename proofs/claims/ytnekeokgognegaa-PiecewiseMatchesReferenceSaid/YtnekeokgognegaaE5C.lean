/-
  The engine, texts R, S, T, U, V, Y.
  Conditions: none beyond the premises of each rule.
-/
import Derived.Test.YtnekeokgognegaaE5B
import Derived.Laws.Strings
namespace Go.E2
open Go.RowKit

/-! tables of types -/
inductive TD where
  | no
  | one (z : Value)
  | int (k : IntKind)
  | bool
  | str
  | sl (e k bytes : Nat)
  | st (k : Nat) (fs : List (Nat × Nat)) (zs : List Value)
  | arr (len e k : Nat) (zs : List Value)
inductive Tr where
  | nil
  | node (l : Tr) (v : TD) (r : Tr)
def Tr.get : Tr → Nat → Option TD
  | .nil, _ => none
  | .node l v r, i => cond (Nat.beq i 0) (some v) (cond (Nat.beq (Nat.mod i 2) 1) (l.get (Nat.div i 2)) (r.get (Nat.div (Nat.sub i 2) 2)))
def kn : IntKind → Nat
  | .i8 => 0 | .i16 => 1 | .i32 => 2 | .i64 => 3 | .u8 => 4 | .u16 => 5 | .u32 => 6 | .u64 => 7
def kq (a b : IntKind) : Bool := Nat.beq (kn a) (kn b) && Nat.blt (kn a) 8
theorem kq_eq {a b : IntKind} (h : kq a b = true) : a = b := by
  simp only [kq, Bool.and_eq_true] at h
  obtain ⟨h1, h2⟩ := h
  have h1 := Nat.eq_of_beq_eq_true h1
  cases a <;> cases b <;> simp_all [kn]
def vz : Value → Value → Bool
  | .int k n, .int k' n' => kq k k' && (match n, n' with | .ofNat a, .ofNat b => Nat.beq a b | _, _ => false)
  | .bool false, .bool false => true
  | .string s, .string s' => Nat.beq s.size 0 && Nat.beq s'.size 0
  | .slice none 0 0, .slice none 0 0 => true
  | .pointer none, .pointer none => true
  | .map none, .map none => true
  | .nilFunc, .nilFunc => true
  | .nilIface, .nilIface => true
  | _, _ => false
theorem vz_eq : ∀ {a b : Value}, vz a b = true → a = b := by
  intro a b h
  unfold vz at h
  split at h
  · simp only [Bool.and_eq_true] at h
    have := kq_eq h.1
    subst this
    have h2 := h.2
    split at h2
    · have := Nat.eq_of_beq_eq_true h2; subst this; rfl
    · cases h2
  · rfl
  · rename_i s s'
    simp only [Bool.and_eq_true] at h
    have h1 := Nat.eq_of_beq_eq_true h.1
    have h2 := Nat.eq_of_beq_eq_true h.2
    have e : ∀ q : ByteArray, q.size = 0 → q = ByteArray.empty := fun q hq => by
      obtain ⟨d⟩ := q
      have : d = #[] := Array.eq_empty_of_size_eq_zero hq
      subst this; rfl
    rw [e s h1, e s' h2]
  all_goals first | rfl | cases h
def vzs : List Value → List Value → Bool
  | [], [] => true
  | a :: as, b :: bs => vz a b && vzs as bs
  | _, _ => false
theorem vzs_eq : ∀ {a b : List Value}, vzs a b = true → a = b
  | [], [], _ => rfl
  | a :: as, b :: bs, h => by
    simp only [vzs, Bool.and_eq_true] at h
    rw [vz_eq h.1, vzs_eq h.2]
  | [], _ :: _, h => by cases h
  | _ :: _, [], h => by cases h
def szB (P : Program) (t k : Nat) : Bool := match P.info? t with
  | some i => Nat.beq i.size k
  | none => false
theorem szB_eq {P : Program} {t k : Nat} (h : szB P t k = true) : (P.info? t).map (·.size) = some k := by
  unfold szB at h
  split at h
  · rename_i i e; rw [e]; simp [Nat.eq_of_beq_eq_true h]
  · cases h
def zeB (P : Program) (t : Nat) (zs : List Value) : Bool := match P.info? t with
  | some i => match i.zero with
    | some z => vzs z.cells.toList zs
    | none => false
  | none => false
theorem zeB_eq {P : Program} {t : Nat} {zs : List Value} (h : zeB P t zs = true) : ∃ z, (P.info? t).bind (·.zero) = some z ∧ z.cells.toList = zs := by
  unfold zeB at h
  split at h
  · rename_i i e
    split at h
    · rename_i z e2; exact ⟨z, by rw [e]; simp [e2], vzs_eq h⟩
    · cases h
  · cases h
def flB (P : Program) : List Field → List (Nat × Nat) → Bool
  | [], [] => true
  | f :: fs, (o, s) :: os => Nat.beq f.offset o && szB P f.type s && flB P fs os
  | _, _ => false
theorem flB_eq {P : Program} : ∀ {fs : List Field} {os : List (Nat × Nat)}, flB P fs os = true → fs.length = os.length ∧ ∀ (i : Nat) (f : Field) (o s : Nat), fs[i]? = some f → os[i]? = some (o, s) → f.offset = o ∧ (P.info? f.type).map (·.size) = some s
  | [], [], _ => ⟨rfl, by simp⟩
  | f :: fs, (o, s) :: os, h => by
    simp only [flB, Bool.and_eq_true] at h
    obtain ⟨h1, h2⟩ := flB_eq h.2
    refine ⟨by simp [h1], fun i g o' s' hg ho => ?_⟩
    cases i with
    | zero =>
      simp only [List.getElem?_cons_zero, Option.some.injEq, Prod.mk.injEq] at hg ho
      obtain ⟨rfl, rfl⟩ := ho
      subst hg
      exact ⟨Nat.eq_of_beq_eq_true h.1.1, szB_eq h.1.2⟩
    | succ i => exact h2 i g o' s' (by simpa using hg) (by simpa using ho)
  | [], _ :: _, h => by cases h
  | _ :: _, [], h => by cases h
def tdB (P : Program) (t : Nat) : TD → Bool
  | .no => true
  | .one z => (match P.underlying t with | some d => !isAggD d | none => false) && szB P t 1 && zeB P t [z]
  | .int k => (match P.underlying t with | some (.int k') => kq k k' | _ => false) && szB P t 1 && zeB P t [.int k 0]
  | .bool => (match P.underlying t with | some .bool => true | _ => false) && szB P t 1 && zeB P t [.bool false]
  | .str => (match P.underlying t with | some .string => true | _ => false) && szB P t 1 && zeB P t [.string ByteArray.empty]
  | .sl e k b => (match P.underlying t with | some (.slice e') => Nat.beq e e' | _ => false) && (szB P t 1 && zeB P t [.slice none 0 0]) && szB P e k && (match P.info? e with
      | some i => Nat.beq i.bytes b && (match i.zero with | some z => Nat.beq z.cells.size k | none => false)
      | none => false)
  | .st k fs zs => (match P.underlying t with | some (.struct fl) => flB P fl.toList fs | _ => false) && szB P t k && zeB P t zs
  | .arr len e k zs => (match P.underlying t with | some (.array l' e') => Nat.beq l' len && Nat.beq e' e | _ => false) && szB P t (len * k) && szB P e k && zeB P t zs
def Tr.chk (P : Program) : Nat → Nat → Tr → Bool
  | _, _, .nil => true
  | m, a, .node l v r => tdB P a v && l.chk P (Nat.mul 2 m) (Nat.add a m) && r.chk P (Nat.mul 2 m) (Nat.add a (Nat.mul 2 m))
theorem Tr.chk_get {P : Program} : ∀ {T : Tr} {m a i : Nat} {d : TD}, T.chk P m a = true → T.get i = some d → tdB P (a + m * i) d = true
  | .nil, _, _, _, _, _, h => by cases h
  | .node l v r, m, a, i, d, hc, h => by
    simp only [Tr.chk, Bool.and_eq_true] at hc
    obtain ⟨⟨h1, h2⟩, h3⟩ := hc
    simp only [Tr.get] at h
    cases e0 : Nat.beq i 0 with
    | true =>
      rw [e0] at h
      simp only [cond_true, Option.some.injEq] at h
      subst h
      have := Nat.eq_of_beq_eq_true e0
      subst this
      simpa using h1
    | false =>
      have hi : i ≠ 0 := fun e => by subst e; simp at e0
      rw [e0] at h
      simp only [cond_false] at h
      cases e1 : Nat.beq (Nat.mod i 2) 1 with
      | true =>
        rw [e1] at h
        have e2 : i % 2 = 1 := Nat.eq_of_beq_eq_true e1
        have := Tr.chk_get h2 h
        have e3 : a.add m + Nat.mul 2 m * Nat.div i 2 = a + m * i := by
          show a + m + 2 * m * (i / 2) = a + m * i
          have : i = 2 * (i / 2) + 1 := by omega
          generalize i / 2 = q at *
          subst this
          rw [Nat.mul_add, Nat.mul_one, ← Nat.mul_assoc, Nat.mul_comm m 2]; omega
        rwa [e3] at this
      | false =>
        rw [e1] at h
        have e2 : i % 2 ≠ 1 := fun e => by rw [show Nat.mod i 2 = 1 from e] at e1; simp at e1
        have := Tr.chk_get h3 h
        have e3 : a.add (Nat.mul 2 m) + Nat.mul 2 m * Nat.div (Nat.sub i 2) 2 = a + m * i := by
          show a + 2 * m + 2 * m * ((i - 2) / 2) = a + m * i
          have : i = 2 * ((i - 2) / 2) + 2 := by omega
          generalize (i - 2) / 2 = q at *
          subst this
          rw [Nat.mul_add, ← Nat.mul_assoc, Nat.mul_comm m 2]; omega
        rwa [e3] at this
class TabOK (P : Program) (T : outParam Tr) : Prop where
  out : T.chk P 1 0 = true
  fol : P.follows .mixedOrders = true
section tab
variable {P : Program} {T : Tr} {t : Nat}
theorem TabOK.td (h : TabOK P T) {d : TD} (hd : T.get t = some d) : tdB P t d = true := by
  have := Tr.chk_get h.out hd
  simpa using this
theorem tab_int (h : TabOK P T) {k : IntKind} (hd : T.get t = some (.int k)) : P.underlying t = some (.int k) ∧ OneT P t := by
  have := h.td hd
  simp only [tdB, Bool.and_eq_true] at this
  obtain ⟨⟨h1, h2⟩, _⟩ := this
  split at h1
  · rename_i e; have := kq_eq h1; subst this; exact ⟨e, ⟨⟨_, e, rfl⟩, szB_eq h2⟩⟩
  · cases h1
theorem tab_bool (h : TabOK P T) (hd : T.get t = some .bool) : P.underlying t = some .bool ∧ OneT P t := by
  have := h.td hd
  simp only [tdB, Bool.and_eq_true] at this
  obtain ⟨⟨h1, h2⟩, _⟩ := this
  split at h1
  · rename_i e; exact ⟨e, ⟨⟨_, e, rfl⟩, szB_eq h2⟩⟩
  · cases h1
theorem tab_str (h : TabOK P T) (hd : T.get t = some .str) : P.underlying t = some .string ∧ OneT P t := by
  have := h.td hd
  simp only [tdB, Bool.and_eq_true] at this
  obtain ⟨⟨h1, h2⟩, _⟩ := this
  split at h1
  · rename_i e; exact ⟨e, ⟨⟨_, e, rfl⟩, szB_eq h2⟩⟩
  · cases h1
theorem tab_one (h : TabOK P T) {z : Value} (hd : T.get t = some (.one z)) : OneT P t := by
  have := h.td hd
  simp only [tdB, Bool.and_eq_true] at this
  obtain ⟨⟨h1, h2⟩, _⟩ := this
  split at h1
  · rename_i d e; exact ⟨⟨_, e, by simpa using h1⟩, szB_eq h2⟩
  · cases h1
theorem tab_sl (h : TabOK P T) {e k b : Nat} (hd : T.get t = some (.sl e k b)) : SlcT P t e k ∧ OneT P t ∧ (0 < k → 0 < b → ApT P t e k b) := by
  have := h.td hd
  simp only [tdB, Bool.and_eq_true] at this
  obtain ⟨⟨⟨h1, h2, _⟩, h3⟩, h4⟩ := this
  split at h1
  · rename_i e' eu
    have := Nat.eq_of_beq_eq_true h1
    subst this
    refine ⟨⟨eu, szB_eq h3⟩, ⟨⟨_, eu, rfl⟩, szB_eq h2⟩, fun hk hb => ?_⟩
    split at h4
    · rename_i i ei
      simp only [Bool.and_eq_true] at h4
      obtain ⟨h5, h6⟩ := h4
      split at h6
      · rename_i z ez
        have hsz := szB_eq h3
        rw [ei] at hsz
        simp only [Option.map_some, Option.some.injEq] at hsz
        exact ⟨z, eu, by rw [ei]; simp [ez, hsz, Nat.eq_of_beq_eq_true h5], Nat.eq_of_beq_eq_true h6, hk, hb⟩
      · cases h6
    · cases h4
  · cases h1
theorem tab_st (h : TabOK P T) {k : Nat} {fs : List (Nat × Nat)} {zs : List Value} (hd : T.get t = some (.st k fs zs)) :
    AggT P t k ∧ (∀ (i o s : Nat), fs[i]? = some (o, s) → s ≠ 0 → FldT P t i o) ∧ LayT P t (zs.map .v) (fun i => fs[i]?) ∧ ZeroA P t (zs.map .v) := by
  have := h.td hd
  simp only [tdB, Bool.and_eq_true] at this
  obtain ⟨⟨h1, h2⟩, h3⟩ := this
  obtain ⟨z, hz, hzs⟩ := zeB_eq h3
  split at h1
  · rename_i fl eu
    obtain ⟨hl, hf⟩ := flB_eq h1
    refine ⟨⟨⟨_, eu, rfl⟩, szB_eq h2⟩, fun i o s hi hs => ?_, ?_, ⟨z, hz, by rw [hzs]⟩⟩
    · have hlt := (List.getElem?_eq_some_iff.1 hi).1
      obtain ⟨f, hfi⟩ : ∃ f, fl.toList[i]? = some f := ⟨_, List.getElem?_eq_getElem (by omega)⟩
      obtain ⟨h4, h5⟩ := hf i f o s hfi hi
      refine ⟨⟨fl, f, eu, by simpa using hfi, h4, ?_⟩⟩
      cases hinf : P.info? f.type with
      | none => rw [hinf] at h5; cases h5
      | some q => rw [hinf] at h5; simp only [Option.map_some, Option.some.injEq] at h5; simp [h5, hs]
    · have hp : ∀ w, (fl.mapM (m := Sem) fun f => Prod.mk f.offset <$> sizeOf f.type).run P w = .ok fs.toArray w := by
        intro w
        have key : ∀ (gs : List Field) (qs : List (Nat × Nat)), flB P gs qs = true → (gs.mapM (m := Sem) fun f => Prod.mk f.offset <$> sizeOf f.type).run P w = .ok qs w := by
          intro gs
          induction gs with
          | nil => intro qs hq; cases qs <;> simp_all [flB]
          | cons g gs ih =>
            intro qs hq
            cases qs with
            | nil => cases hq
            | cons q qs =>
              obtain ⟨o, s⟩ := q
              simp only [flB, Bool.and_eq_true] at hq
              rw [List.mapM_cons]
              have e1 := run_sizeOf' (szB_eq hq.1.2) w
              have e2 := Nat.eq_of_beq_eq_true hq.1.1
              simp [e1, ih qs hq.2, e2]
        rw [Array.mapM_eq_mapM_toList]
        simp [key _ _ h1]
      have := lay_struct (zs := zs.map .v) hz (by rw [hzs]) eu hp
      simpa using this
  · cases h1
theorem tab_arr (h : TabOK P T) {len e k : Nat} {zs : List Value} (hd : T.get t = some (.arr len e k zs)) : ArrT P t len e k ∧ AggT P t (len * k) ∧ LayT P t (zs.map .v) (fun i => some (i * k, k)) ∧ ZeroA P t (zs.map .v) := by
  have := h.td hd
  simp only [tdB, Bool.and_eq_true] at this
  obtain ⟨⟨⟨h1, h2⟩, h4⟩, h3⟩ := this
  obtain ⟨z, hz, hzs⟩ := zeB_eq h3
  split at h1
  · rename_i l' e' eu
    simp only [Bool.and_eq_true] at h1
    have e1 := Nat.eq_of_beq_eq_true h1.1
    have e2 := Nat.eq_of_beq_eq_true h1.2
    subst e1; subst e2
    have ha : ArrT P t l' e' k := ⟨eu, szB_eq h4⟩
    exact ⟨ha, ⟨⟨_, eu, rfl⟩, szB_eq h2⟩, lay_array (zs := zs.map .v) hz (by rw [hzs]) ha, ⟨z, hz, by rw [hzs]⟩⟩
  · cases h1
def zsOf : TD → List Value
  | .no => []
  | .one z => [z]
  | .int k => [.int k 0]
  | .bool => [.bool false]
  | .str => [.string ByteArray.empty]
  | .sl _ _ _ => [.slice none 0 0]
  | .st _ _ zs => zs
  | .arr _ _ _ zs => zs
theorem tab_zero (h : TabOK P T) {d : TD} (hd : T.get t = some d) (h0 : d ≠ .no) : ZeroA P t ((zsOf d).map .v) := by
  have := h.td hd
  have key : ∀ zs, zeB P t zs = true → ZeroA P t (zs.map .v) := fun zs hz => by
    obtain ⟨z, h1, h2⟩ := zeB_eq hz
    exact ⟨z, h1, by rw [h2]⟩
  cases d <;> simp only [tdB, Bool.and_eq_true] at this <;> first | exact absurd rfl h0 | exact key _ this.2 | exact key _ this.1.1.2.2
end tab
end Go.E2
namespace Go.E2
open Go.RowKit

/-! obligations -/
abbrev inR (n : Int) : Prop := -9223372036854775808 ≤ n ∧ n ≤ 9223372036854775807
structure Must (w : Bool) (q p : Prop) : Prop where
  h : w = true → q
  k : p
/-- a number that is in range, or wrapped -/
inductive MW (w : Bool) (q : Prop) (i : Int) (k : AV → Prop) : Prop
  | ok (h : w = true → q) (hk : k (I i)) : MW w q i k
  | wr (hk : k (.v (.int .i64 (IntKind.i64.wrap i)))) : MW w q i k
structure Br (b : Bool) (p q : Prop) : Prop where
  t : b = true → p
  f : b = false → q
theorem Br.tt {p q : Prop} (h : p) : Br true p q := ⟨fun _ => h, fun e => by cases e⟩
theorem Br.ff {p q : Prop} (h : q) : Br false p q := ⟨fun e => (by cases e), fun _ => h⟩
inductive Quo (w : Bool) (a b : Int) (k : Int → Prop) : Prop
  | nn (h : w = true → 0 ≤ a ∧ 1 ≤ b ∧ a ≤ 9223372036854775807) (hk : k (a / b)) : Quo w a b k
  | t (h : w = true → b ≠ 0 ∧ inR (a.tdiv b)) (hk : k (a.tdiv b)) : Quo w a b k
inductive Rem (w : Bool) (a b : Int) (k : Int → Prop) : Prop
  | nn (h : w = true → 0 ≤ a ∧ 1 ≤ b) (hk : k (a % b)) : Rem w a b k
  | t (h : w = true → b ≠ 0) (hk : k (a.tmod b)) : Rem w a b k
inductive Ix (w : Bool) (xs : List AV) (i : Int) (k : AV → Prop) : Prop
  | mk (r : AV) (h : w = true → 0 ≤ i ∧ xs[i.toNat]? = some r) (hk : k r) : Ix w xs i k
theorem Ix.at {w : Bool} {xs : List AV} {i : Int} {k : AV → Prop} {r : AV} (h : xs[i.toNat]? = some r) (h0 : w = true → 0 ≤ i) (hk : k r) : Ix w xs i k := ⟨r, fun e => ⟨h0 e, h⟩, hk⟩
theorem Ix.map {w : Bool} {i : Int} {k : AV → Prop} {α : Type} [Inhabited α] {f : α → AV} {ys : List α} (h : w = true → 0 ≤ i ∧ i < ys.length) (hk : k (f (ys.getD i.toNat default))) : Ix w (ys.map f) i k :=
  ⟨_, fun e => ⟨(h e).1, by
    have hlt : i.toNat < ys.length := by have := h e; omega
    rw [List.getElem?_map, List.getElem?_eq_getElem hlt]
    simp [List.getD, hlt]⟩, hk⟩
theorem Ix.mapN {w : Bool} {i : Nat} {k : AV → Prop} {α : Type} [Inhabited α] {f : α → AV} {ys : List α} (h : w = true → i < ys.length) (hk : k (f (ys.getD i default))) : Ix w (ys.map f) (i : Int) k := Ix.map (fun e => ⟨by omega, by have := h e; omega⟩) hk
theorem Ix.mapN1 {w : Bool} {i : Nat} {k : AV → Prop} {α : Type} [Inhabited α] {f : α → AV} {ys : List α} (h : w = true → i + 1 < ys.length) (hk : k (f (ys.getD (i + 1) default))) : Ix w (ys.map f) ((i : Int) + 1) k := Ix.map (fun e => ⟨by omega, by have := h e; omega⟩) hk
section
variable (P : Program) (T : Tr) (c : Ctx) (n : Cfg)
structure Ask (w : Bool) (o : Op) (ty : TypeId) (F : Fr) (L : List Ent) (k : AV → Prop) : Prop where
  out : ∃ r, (w = true → Gr P c n o ty F L r) ∧ k r
variable {P T c n}
theorem Ask.of {w : Bool} {o : Op} {ty : TypeId} {F : Fr} {L : List Ent} {k : AV → Prop} {r : AV} (h : Gr P c n o ty F L r) (hk : k r) : Ask P c n w o ty F L k := ⟨r, fun _ => h, hk⟩
end

/-! reading -/
def rd (n : Cfg) (F : Fr) (x : Operand) (k : AV → Prop) : Prop := match oget n F x with
  | some a => k a
  | none => False
def rds (n : Cfg) (F : Fr) : List Operand → (List AV → Prop) → Prop
  | [], k => k []
  | x :: xs, k => rd n F x fun a => rds n F xs fun as => k (a :: as)
def rdp (n : Cfg) (F : Fr) : List (Nat × Operand) → (List (Nat × AV) → Prop) → Prop
  | [], k => k []
  | (i, x) :: xs, k => rd n F x fun a => rdp n F xs fun as => k ((i, a) :: as)
def nth : List AV → Nat → (AV → Prop) → Prop
  | [], _, _ => False
  | a :: _, 0, k => k a
  | _ :: l, i + 1, k => nth l i k
def takeK : List AV → Nat → (List AV → Prop) → Prop
  | _, 0, k => k []
  | a :: l, m + 1, k => takeK l m fun vs => k (a :: vs)
  | [], _ + 1, _ => False
def dropK : List AV → Nat → (List AV → Prop) → Prop
  | l, 0, k => k l
  | _ :: l, m + 1, k => dropK l m k
  | [], _ + 1, _ => False
def force : List AV → (List AV → Prop) → Prop
  | [], k => k []
  | a :: l, k => force l fun vs => k (a :: vs)
section
variable {n : Cfg} {F : Fr}
theorem rd_out {x : Operand} {k : AV → Prop} (h : rd n F x k) : ∃ a, oget n F x = some a ∧ k a := by
  unfold rd at h
  split at h
  · rename_i a e; exact ⟨a, e, h⟩
  · exact h.elim
theorem rds_out : ∀ {xs : List Operand} {k : List AV → Prop}, rds n F xs k → ∃ as, ogets n F xs = some as ∧ k as
  | [], _, h => ⟨[], rfl, h⟩
  | x :: xs, _, h => by
    obtain ⟨a, e, h⟩ := rd_out h
    obtain ⟨as, e2, h⟩ := rds_out h
    exact ⟨a :: as, by simp [ogets, e, e2], h⟩
theorem rdp_out : ∀ {xs : List (Nat × Operand)} {k : List (Nat × AV) → Prop}, rdp n F xs k → ∃ as, ogetp n F xs = some as ∧ k as
  | [], _, h => ⟨[], rfl, h⟩
  | (i, x) :: xs, _, h => by
    obtain ⟨a, e, h⟩ := rd_out h
    obtain ⟨as, e2, h⟩ := rdp_out h
    exact ⟨(i, a) :: as, by simp [ogetp, e, e2], h⟩
theorem nth_out : ∀ {l : List AV} {i : Nat} {k : AV → Prop}, nth l i k → ∃ a, l[i]? = some a ∧ k a
  | [], _, _, h => h.elim
  | a :: _, 0, _, h => ⟨a, rfl, h⟩
  | _ :: l, i + 1, _, h => by simpa using nth_out (l := l) (i := i) h
theorem takeK_out : ∀ {l : List AV} {m : Nat} {k : List AV → Prop}, takeK l m k → ∃ vs, l.take m = vs ∧ vs.length = m ∧ k vs
  | l, 0, _, h => ⟨[], by simp, rfl, by cases l <;> exact h⟩
  | a :: l, m + 1, _, h => by
    obtain ⟨vs, h1, h2, h3⟩ := takeK_out (l := l) (m := m) h
    exact ⟨a :: vs, by simp [h1], by simp [h2], h3⟩
  | [], _ + 1, _, h => h.elim
theorem dropK_out : ∀ {l : List AV} {m : Nat} {k : List AV → Prop}, dropK l m k → k (l.drop m)
  | l, 0, _, h => by cases l <;> exact h
  | _ :: l, m + 1, _, h => by simpa using dropK_out (l := l) (m := m) h
  | [], _ + 1, _, h => h.elim
theorem force_out : ∀ {l : List AV} {k : List AV → Prop}, force l k → k l
  | [], _, h => h
  | _ :: l, _, h => force_out (l := l) h
end

/-! pure operations -/
section
variable (P : Program) (T : Tr) (c : Ctx) (n : Cfg)
def binI (w : Bool) (b : BinOp) (q : IntKind) (i j : Int) (ask : Prop) (k : AV → Prop) : Prop := match b with
  | .add => match q with
    | .i64 => MW w (inR (i + j)) (i + j) k
    | q => k (.v (.int q (q.wrap (i + j))))
  | .sub => match q with
    | .i64 => MW w (inR (i - j)) (i - j) k
    | q => k (.v (.int q (q.wrap (i - j))))
  | .mul => match q with
    | .i64 => MW w (inR (i * j)) (i * j) k
    | q => k (.v (.int q (q.wrap (i * j))))
  | .quo => match q with
    | .i64 => Quo w i j fun r => k (I r)
    | _ => ask
  | .rem => Rem w i j fun r => k (.v (.int q r))
  | .lss => k (B (decide (i < j)))
  | .leq => k (B (decide (i ≤ j)))
  | .gtr => k (B (decide (j < i)))
  | .geq => k (B (decide (j ≤ i)))
  | .eql => k (B (decide (i = j)))
  | .neq => k (B (decide (i ≠ j)))
  | _ => ask
def bin (w : Bool) (b : BinOp) (d : Option TD) (a a' : AV) (ask : Prop) (k : AV → Prop) : Prop := match d with
  | some (.int q) => match a with
    | .v (.int q1 i) => match a' with
      | .v (.int q2 j) => cond (kq q q1 && kq q q2) (binI w b q i j ask k) ask
      | _ => ask
    | _ => ask
  | some .bool => match a with
    | .v (.bool p) => match a' with
      | .v (.bool p') => match b with
        | .eql => k (B (p == p'))
        | .neq => k (B (p != p'))
        | _ => ask
      | _ => ask
    | _ => ask
  | some .str => match a with
    | .v (.string s) => match a' with
      | .v (.string s') => match b with
        | .eql => k (B (decide (s = s')))
        | .neq => k (B (decide (s ≠ s')))
        | .lss => k (B (Op.bytesLess s.toList s'.toList))
        | _ => ask
      | _ => ask
    | _ => ask
  | _ => ask
def asI : AV → (Int → Prop) → Prop → Prop
  | .v (.int _ i), k, _ => k i
  | _, _, p => p
def gr (w : Bool) (F : Fr) (L : List Ent) (ty : TypeId) (o : Op) (k : AV → Prop) : Prop := match o with
  | .move x => rd n F x k
  | .assign x => rd n F x k
  | .binOp b t x y t' => rd n F x fun a => rd n F y fun a' => bin w b (T.get t) a a' (Ask P c n w (.binOp b t x y t') ty F L k) k
  | .unOp .not t x => rd n F x fun a => match a with
    | .v (.bool b) => k (B (!b))
    | _ => Ask P c n w (.unOp .not t x) ty F L k
  | .unOp .neg t x => rd n F x fun a => match a with
    | .v (.int .i64 i) => Must w (inR (-i)) (k (I (-i)))
    | _ => Ask P c n w (.unOp .neg t x) ty F L k
  | .convert s d x => rd n F x fun a => match a with
    | .v (.int _ i) => match T.get s with
      | some (.int _) => match T.get d with
        | some (.int .i64) => Must w (inR i) (k (I i))
        | some (.int q) => k (.v (.int q (q.wrap i)))
        | _ => Ask P c n w (.convert s d x) ty F L k
      | _ => Ask P c n w (.convert s d x) ty F L k
    | _ => Ask P c n w (.convert s d x) ty F L k
  | .extract x i => rd n F x fun a => match a with
    | .tup as => nth as i k
    | _ => Ask P c n w (.extract x i) ty F L k
  | .nilCheck x => rd n F x fun a => match a with
    | .v (.pointer (some p)) => k (.v (.pointer (some p)))
    | .fp cs off => k (.fp cs off)
    | _ => Ask P c n w (.nilCheck x) ty F L k
  | .fieldAddr s x i => rd n F x fun a => match T.get s with
    | some (.st _ fs _) => match fs[i]? with
      | some (off, sz) => cond (Nat.beq sz 0) False (match a with
        | .v (.pointer (some ⟨g, o, none⟩)) => k (.v (.pointer (some ⟨g, Nat.add o off, none⟩)))
        | .fp cs o => k (.fp cs (Nat.add o off))
        | _ => Ask P c n w (.fieldAddr s x i) ty F L k)
      | none => False
    | _ => False
  | .indexAddr t x y => rd n F x fun a => rd n F y fun a' => match a with
    | .sl kk xs => match T.get t with
      | some (.sl _ k' _) => cond (Nat.beq kk k') (asI a' (fun i => Ix w xs i fun r => k (.fp r.cells 0)) False) False
      | _ => False
    | .fp cs o => match T.get t with
      | some (.arr len _ kk _) => asI a' (fun i => Must w (0 ≤ i ∧ i < len) (k (.fp cs (o + i.toNat * kk)))) False
      | _ => Ask P c n w (.indexAddr t x y) ty F L k
    | _ => Ask P c n w (.indexAddr t x y) ty F L k
  | .load t x => rd n F x fun a => match a with
    | .fp cs off => match T.get t with
      | some (.st kk _ _) => dropK cs off fun ds => takeK ds kk fun vs => k (.agg vs)
      | some (.arr len _ kk _) => dropK cs off fun ds => takeK ds (Nat.mul len kk) fun vs => k (.agg vs)
      | some .no => False
      | none => False
      | some _ => nth cs off k
    | _ => Ask P c n w (.load t x) ty F L k
  | .makeFunc fn first caps => match first.toList with
    | [] => rds n F caps.toList fun as => k (.fn fn as)
    | _ => Ask P c n w (.makeFunc fn first caps) ty F L k
  | .build t ps => rdp n F ps.toList fun as => match T.get t with
    | some (.st _ fs zs) => match fillA (fun i => fs[i]?) (zs.map .v) as with
      | some cs => force cs fun cs => k (.agg cs)
      | none => False
    | some (.arr _ _ kk zs) => match fillA (fun i => some (i * kk, kk)) (zs.map .v) as with
      | some cs => force cs fun cs => k (.agg cs)
      | none => False
    | _ => False
  | .slice t x lo hi mx => rd n F x fun a => match a with
    | .sl kk xs => match T.get t with
      | some (.sl _ k' _) => cond (Nat.beq kk k') (match mx with
        | none => match lo with
          | some y => match hi with
            | some z => rd n F y fun b => rd n F z fun d => asI b (fun i => asI d (fun j => Must w (0 ≤ i ∧ i ≤ j ∧ j ≤ xs.length) (k (.sl kk ((xs.drop i.toNat).take (j.toNat - i.toNat))))) False) False
            | none => rd n F y fun b => asI b (fun i => Must w (0 ≤ i ∧ i ≤ xs.length) (k (.sl kk (xs.drop i.toNat)))) False
          | none => match hi with
            | some z => rd n F z fun d => asI d (fun j => Must w (0 ≤ j ∧ j ≤ xs.length) (k (.sl kk (xs.take j.toNat)))) False
            | none => Ask P c n w (.slice t x lo hi mx) ty F L k
        | some _ => Ask P c n w (.slice t x lo hi mx) ty F L k) False
      | _ => False
    | _ => Ask P c n w (.slice t x lo hi mx) ty F L k
  | .call ⟨.builtin .len, xs, ts⟩ => match xs.toList with
    | [x] => match ts.toList with
      | [t] => rd n F x fun a => match T.get t with
        | some (.sl _ k' _) => (match a with
          | .sl kk ys => cond (Nat.beq kk k') (k (I ys.length)) False
          | _ => Ask P c n w (.call ⟨.builtin .len, xs, ts⟩) ty F L k)
        | some .str => (match a with
          | .v (.string s) => k (I s.size)
          | _ => Ask P c n w (.call ⟨.builtin .len, xs, ts⟩) ty F L k)
        | _ => Ask P c n w (.call ⟨.builtin .len, xs, ts⟩) ty F L k
      | _ => False
    | _ => False
  | .call ⟨.builtin .max, xs, ts⟩ => match xs.toList with
    | [x, y] => rd n F x fun a => rd n F y fun a' => match a with
      | .v (.int q i) => match a' with
        | .v (.int q' j) => cond (kq q q') (k (.v (.int q (max i j)))) False
        | _ => False
      | _ => False
    | _ => Ask P c n w (.call ⟨.builtin .max, xs, ts⟩) ty F L k
  | .call ⟨.builtin .min, xs, ts⟩ => match xs.toList with
    | [x, y] => rd n F x fun a => rd n F y fun a' => match a with
      | .v (.int q i) => match a' with
        | .v (.int q' j) => cond (kq q q') (k (.v (.int q (min i j)))) False
        | _ => False
      | _ => False
    | _ => Ask P c n w (.call ⟨.builtin .min, xs, ts⟩) ty F L k
  | o => Ask P c n w o ty F L k
end
end Go.E2
namespace Go.E2
open Go.RowKit
section
variable {P : Program} {T : Tr} {c : Ctx} {n : Cfg} {w : Bool} {F : Fr} {L : List Ent} {ty : TypeId} {k : AV → Prop}
abbrev Out (P : Program) (c : Ctx) (n : Cfg) (w : Bool) (o : Op) (ty : TypeId) (F : Fr) (L : List Ent) (k : AV → Prop) : Prop := ∃ r, (w = true → Gr P c n o ty F L r) ∧ k r
theorem binI_out {b : BinOp} {q : IntKind} {i j : Int} {x y : Operand} {t t' : TypeId} (hx : oget n F x = some (.v (.int q i))) (hy : oget n F y = some (.v (.int q j)))
    (h : binI w b q i j (Ask P c n w (.binOp b t x y t') ty F L k) k) : Out P c n w (.binOp b t x y t') ty F L k := by
  unfold binI at h
  split at h
  · split at h
    · cases h with
      | ok h hk => exact ⟨_, fun e => Gr.add hx hy (h e), hk⟩
      | wr hk => exact ⟨_, fun _ => Gr.addW hx hy, hk⟩
    · exact ⟨_, fun _ => Gr.addW hx hy, h⟩
  · split at h
    · cases h with
      | ok h hk => exact ⟨_, fun e => Gr.sub hx hy (h e), hk⟩
      | wr hk => exact ⟨_, fun _ => Gr.subW hx hy, hk⟩
    · exact ⟨_, fun _ => Gr.subW hx hy, h⟩
  · split at h
    · cases h with
      | ok h hk => exact ⟨_, fun e => Gr.mul hx hy (h e), hk⟩
      | wr hk => exact ⟨_, fun _ => Gr.mulW hx hy, hk⟩
    · exact ⟨_, fun _ => Gr.mulW hx hy, h⟩
  · split at h
    · cases h with
      | nn h hk => exact ⟨_, fun e => Gr.quoN hx hy (h e).1 (h e).2.1 (h e).2.2, hk⟩
      | t h hk => exact ⟨_, fun e => Gr.quo hx hy (h e).1 (h e).2, hk⟩
    · exact h.out
  · cases h with
    | nn h hk => exact ⟨_, fun e => Gr.remN hx hy (h e).1 (h e).2, hk⟩
    | t h hk => exact ⟨_, fun e => Gr.rem hx hy (h e), hk⟩
  · exact ⟨_, fun _ => Gr.lss hx hy, h⟩
  · exact ⟨_, fun _ => Gr.leq hx hy, h⟩
  · exact ⟨_, fun _ => Gr.gtr hx hy, h⟩
  · exact ⟨_, fun _ => Gr.geq hx hy, h⟩
  · exact ⟨_, fun _ => Gr.eql hx hy, h⟩
  · exact ⟨_, fun _ => Gr.neq hx hy, h⟩
  · exact h.out
theorem cond_or {b : Bool} {p q : Prop} (h : cond b p q) : (b = true ∧ p) ∨ (b = false ∧ q) := by
  cases b with
  | true => exact .inl ⟨rfl, h⟩
  | false => exact .inr ⟨rfl, h⟩
theorem str_eq (s t : ByteArray) : (s.toList == t.toList) = decide (s = t) := by
  rw [ByteArray.toList_eq, ByteArray.toList_eq]
  have : s.data.toList = t.data.toList ↔ s = t := ⟨fun h => by
    obtain ⟨a⟩ := s
    obtain ⟨b⟩ := t
    simp only at h
    rw [Array.toList_inj] at h
    rw [h], fun h => by rw [h]⟩
  by_cases h : s = t
  · simp [h]
  · rw [decide_eq_false h, beq_eq_false_iff_ne]
    exact fun e => h (this.1 e)
theorem bin_out [hT : TabOK P T] {b : BinOp} {a a' : AV} {x y : Operand} {t t' : TypeId} (hx : oget n F x = some a) (hy : oget n F y = some a')
    (h : bin w b (T.get t) a a' (Ask P c n w (.binOp b t x y t') ty F L k) k) : Out P c n w (.binOp b t x y t') ty F L k := by
  unfold bin at h
  split at h
  · split at h
    · split at h
      · rcases cond_or h with ⟨e, h1⟩ | ⟨_, h1⟩
        · clear h
          simp only [Bool.and_eq_true] at e
          have e1 := kq_eq e.1
          have e2 := kq_eq e.2
          subst e1; subst e2
          exact binI_out hx hy h1
        · exact h1.out
      · exact h.out
    · exact h.out
  · rename_i hd
    have hb := (tab_bool hT hd).1
    split at h
    · split at h
      · split at h
        · exact ⟨_, fun _ => Gr.eqlB hb hx hy, h⟩
        · exact ⟨_, fun _ => Gr.neqB hb hx hy, h⟩
        · exact h.out
      · exact h.out
    · exact h.out
  · split at h
    · split at h
      · split at h
        · exact ⟨_, fun _ => (Gr.eqlT hx hy).ofEq (by rw [str_eq]), h⟩
        · exact ⟨_, fun _ => (Gr.neqT hx hy).ofEq (by rw [str_eq]; simp), h⟩
        · exact ⟨_, fun _ => Gr.lssT hx hy, h⟩
        · exact h.out
      · exact h.out
    · exact h.out
  · exact h.out
theorem asI_out {a : AV} {k : Int → Prop} {p : Prop} (h : asI a k p) : (∃ q i, a = .v (.int q i) ∧ k i) ∨ p := by
  unfold asI at h
  split at h
  · exact .inl ⟨_, _, rfl, h⟩
  · exact .inr h
theorem cond_f {b : Bool} {p : Prop} (h : cond b p False) : b = true ∧ p := by
  cases b with
  | true => exact ⟨rfl, h⟩
  | false => exact h.elim
theorem load_one [hT : TabOK P T] {t : TypeId} {d : TD} (hd : T.get t = some d) (h0 : d ≠ .no) (h1 : ∀ k fs zs, d ≠ .st k fs zs) (h2 : ∀ l e k zs, d ≠ .arr l e k zs) : OneT P t := by
  cases d with
  | no => exact absurd rfl h0
  | one z => exact tab_one hT hd
  | int k => exact (tab_int hT hd).2
  | bool => exact (tab_bool hT hd).2
  | str => exact (tab_str hT hd).2
  | sl e k b => exact (tab_sl hT hd).2.1
  | st k fs zs => exact absurd rfl (h1 _ _ _)
  | arr l e k zs => exact absurd rfl (h2 _ _ _ _)
theorem of_toList {α : Type} {a : Array α} {l : List α} (h : a.toList = l) : a = l.toArray := by rw [← h]
theorem gr_out [hT : TabOK P T] {o : Op} (h : gr P T c n w F L ty o k) : Out P c n w o ty F L k := by
  unfold gr at h
  split at h
  · obtain ⟨a, e, h⟩ := rd_out h; exact ⟨_, fun _ => Gr.move e, h⟩
  · obtain ⟨a, e, h⟩ := rd_out h; exact ⟨_, fun _ => Gr.assign e, h⟩
  · obtain ⟨a, e, h⟩ := rd_out h
    obtain ⟨a', e', h⟩ := rd_out h
    exact bin_out e e' h
  · obtain ⟨a, e, h⟩ := rd_out h
    split at h
    · exact ⟨_, fun _ => Gr.not e, h⟩
    · exact h.out
  · obtain ⟨a, e, h⟩ := rd_out h
    split at h
    · exact ⟨_, fun q => Gr.neg e (h.h q), h.k⟩
    · exact h.out
  · obtain ⟨a, e, h⟩ := rd_out h
    split at h
    · split at h
      · rename_i hs
        have hss := (tab_int hT hs).1
        split at h
        · rename_i hd; exact ⟨_, fun q => Gr.toI (by rw [hss]; rfl) (tab_int hT hd).1 e (h.h q), h.k⟩
        · rename_i hd; exact ⟨_, fun _ => Gr.conv (by rw [hss]; rfl) (tab_int hT hd).1 e, h⟩
        · exact h.out
      · exact h.out
    · exact h.out
  · obtain ⟨a, e, h⟩ := rd_out h
    split at h
    · obtain ⟨r, e2, h⟩ := nth_out h
      exact ⟨_, fun _ => Gr.extract e e2, h⟩
    · exact h.out
  · obtain ⟨a, e, h⟩ := rd_out h
    split at h
    · exact ⟨_, fun _ => Gr.nilP e, h⟩
    · exact ⟨_, fun _ => Gr.nilF e, h⟩
    · exact h.out
  · obtain ⟨a, e, h⟩ := rd_out h
    split at h
    · rename_i hd
      split at h
      · rename_i off sz hf
        cases hz : Nat.beq sz 0 with
        | true => rw [hz] at h; exact h.elim
        | false =>
          rw [hz] at h
          simp only [cond_false] at h
          have hfl := (tab_st hT hd).2.1 _ _ _ hf (fun e => by subst e; simp at hz)
          split at h
          · exact ⟨_, fun _ => Gr.fieldB hfl e, h⟩
          · exact ⟨_, fun _ => Gr.fieldF hfl e, h⟩
          · exact h.out
      · exact h.elim
    · exact h.elim
  · obtain ⟨a, e, h⟩ := rd_out h
    obtain ⟨a', e', h⟩ := rd_out h
    split at h
    · split at h
      · rename_i hd
        have hb := (cond_f h).1
        replace h := (cond_f h).2
        have := Nat.eq_of_beq_eq_true hb
        subst this
        rcases asI_out h with ⟨q, i, rfl, h⟩ | h
        · cases h with
          | mk r h hk => exact ⟨_, fun q => Gr.idx (tab_sl hT hd).1 e (Sb.refl _) e' (h q).1 (h q).2, hk⟩
        · exact h.elim
      · exact h.elim
    · split at h
      · rename_i hd
        rcases asI_out h with ⟨q, i, rfl, h⟩ | h
        · exact ⟨_, fun q => Gr.idxAF (tab_arr hT hd).1 e e' (h.h q).1 (h.h q).2, h.k⟩
        · exact h.elim
      · exact h.out
    · exact h.out
  · obtain ⟨a, e, h⟩ := rd_out h
    split at h
    · split at h
      · rename_i hd
        obtain ⟨vs, h1, h2, h⟩ := takeK_out (dropK_out h)
        exact ⟨_, fun _ => Gr.ldFA (tab_st hT hd).1 e h1 (by rw [h2]; simp), h⟩
      · rename_i hd
        obtain ⟨vs, h1, h2, h⟩ := takeK_out (dropK_out h)
        exact ⟨_, fun _ => Gr.ldFA (tab_arr hT hd).2.1 e h1 (by rw [h2]; simp), h⟩
      · exact h.elim
      · exact h.elim
      · rename_i d h1 h2 h3 hd
        obtain ⟨r, e2, h⟩ := nth_out h
        exact ⟨_, fun _ => Gr.ldF (load_one hd (fun e => h3 (by rw [e])) (fun _ _ _ e => h1 _ _ _ (by rw [e])) (fun _ _ _ _ e => h2 _ _ _ _ (by rw [e]))) e e2, h⟩
    · exact h.out
  · rename_i fn first caps
    split at h
    · rename_i e
      obtain ⟨as, e2, h⟩ := rds_out h
      have e1 := of_toList e
      subst e1
      refine ⟨_, fun _ => ?_, h⟩
      have := Gr.makeFunc (P := P) (c := c) (n := n) (F := F) (L := L) (ty := ty) (fn := fn) e2
      rwa [Array.toArray_toList] at this
    · exact h.out
  · rename_i t ps
    obtain ⟨as, e, h⟩ := rdp_out h
    split at h
    · rename_i hd
      split at h
      · rename_i cs hf
        refine ⟨_, fun _ => ?_, force_out h⟩
        have := Gr.build (P := P) (c := c) (n := n) (F := F) (L := L) (ty := ty) e ⟨_, _, (tab_st hT hd).2.2.1, hf⟩
        rwa [Array.toArray_toList] at this
      · exact h.elim
    · rename_i hd
      split at h
      · rename_i cs hf
        refine ⟨_, fun _ => ?_, force_out h⟩
        have := Gr.build (P := P) (c := c) (n := n) (F := F) (L := L) (ty := ty) e ⟨_, _, (tab_arr hT hd).2.2.1, hf⟩
        rwa [Array.toArray_toList] at this
      · exact h.elim
    · exact h.elim
  · obtain ⟨a, e, h⟩ := rd_out h
    split at h
    · split at h
      · rename_i hd
        have hb := (cond_f h).1
        replace h := (cond_f h).2
        have := Nat.eq_of_beq_eq_true hb
        subst this
        have hsl := (tab_sl hT hd).1
        split at h
        · split at h
          · split at h
            · obtain ⟨b, e1, h⟩ := rd_out h
              obtain ⟨d, e2, h⟩ := rd_out h
              rcases asI_out h with ⟨q, i, ea, h1⟩ | h1
              · rcases asI_out h1 with ⟨q', j, ed, h2⟩ | h2
                · exact ⟨_, fun q => Gr.slc hsl e (Sb.refl _) (ea ▸ e1) (ed ▸ e2) (h2.h q).1 (h2.h q).2.1 (h2.h q).2.2, h2.k⟩
                · exact h2.elim
              · exact h1.elim
            · obtain ⟨b, e1, h⟩ := rd_out h
              rcases asI_out h with ⟨q, i, rfl, h⟩ | h
              · exact ⟨_, fun q => Gr.slcL hsl e (Sb.refl _) e1 (h.h q).1 (h.h q).2, h.k⟩
              · exact h.elim
          · split at h
            · obtain ⟨b, e1, h⟩ := rd_out h
              rcases asI_out h with ⟨q, i, rfl, h⟩ | h
              · exact ⟨_, fun q => Gr.slcH hsl e (Sb.refl _) e1 (h.h q).1 (h.h q).2, h.k⟩
              · exact h.elim
            · exact h.out
        · exact h.out
      · exact h.elim
    · exact h.out
  · rename_i xs ts
    split at h
    · rename_i x ex
      split at h
      · rename_i t et
        have e1 := of_toList ex
        have e2 := of_toList et
        subst e1; subst e2
        obtain ⟨a, e, h⟩ := rd_out h
        split at h
        · rename_i hd
          split at h
          · have hb := (cond_f h).1
            replace h := (cond_f h).2
            have := Nat.eq_of_beq_eq_true hb
            subst this
            exact ⟨_, fun _ => Gr.len (tab_sl hT hd).1 e (Sb.refl _), h⟩
          · exact h.out
        · rename_i hd
          split at h
          · exact ⟨_, fun _ => Gr.lenT (tab_str hT hd).1 e, h⟩
          · exact h.out
        · exact h.out
      · exact h.elim
    · exact h.elim
  · rename_i xs ts
    split at h
    · rename_i x y ex
      have e1 := of_toList ex
      subst e1
      obtain ⟨a, e, h⟩ := rd_out h
      obtain ⟨a', e', h⟩ := rd_out h
      split at h
      · split at h
        · have hb := (cond_f h).1
          replace h := (cond_f h).2
          have := kq_eq hb
          subst this
          exact ⟨_, fun _ => Gr.max2 e e', h⟩
        · exact h.elim
      · exact h.elim
    · exact h.out
  · rename_i xs ts
    split at h
    · rename_i x y ex
      have e1 := of_toList ex
      subst e1
      obtain ⟨a, e, h⟩ := rd_out h
      obtain ⟨a', e', h⟩ := rd_out h
      split at h
      · split at h
        · have hb := (cond_f h).1
          replace h := (cond_f h).2
          have := kq_eq hb
          subst this
          exact ⟨_, fun _ => Gr.min2 e e', h⟩
        · exact h.elim
      · exact h.elim
    · exact h.out
  · exact h.out
end
end Go.E2
namespace Go.E2
open Go.RowKit

/-! operands that are read under a guard -/
def opn (F : Fr) : List Operand → Fr
  | [] => F
  | .tmp t :: xs => match look F t with
    | some (.opt _ a) => (t, a) :: opn F xs
    | _ => opn F xs
  | _ :: xs => opn F xs
def imps (w : Bool) (F : Fr) : List Operand → (Fr → Prop) → Prop
  | [], k => k F
  | .tmp t :: xs, k => match look F t with
    | some (.opt b a) => Must w (b = true) (imps w F xs fun G => k ((t, a) :: G))
    | _ => imps w F xs k
  | _ :: xs, k => imps w F xs k
theorem imps_out {w : Bool} {F : Fr} : ∀ {xs : List Operand} {k : Fr → Prop}, imps w F xs k → (w = true → ∀ t b a, Operand.tmp t ∈ xs → look F t = some (.opt b a) → b = true) ∧ k (opn F xs)
  | [], _, h => ⟨fun _ t b a ht => (by cases ht), h⟩
  | .tmp t :: xs, p, h => by
    unfold imps at h
    unfold opn
    split at h
    · rename_i b a e
      obtain ⟨h1, h2⟩ := imps_out h.k
      refine ⟨fun q s b' a' hs hl => ?_, h2⟩
      rcases List.mem_cons.1 hs with e1 | hs
      · cases e1
        rw [e] at hl
        cases hl
        exact h.h q
      · exact h1 q s b' a' hs hl
    · rename_i hn
      obtain ⟨h1, h2⟩ := imps_out h
      refine ⟨fun q s b' a' hs hl => ?_, h2⟩
      rcases List.mem_cons.1 hs with e1 | hs
      · cases e1; exact absurd hl (hn _ _)
      · exact h1 q s b' a' hs hl
  | .const v :: xs, p, h => by
    obtain ⟨h1, h2⟩ := imps_out (xs := xs) h
    exact ⟨fun q s b a hs hl => h1 q s b a (by rcases List.mem_cons.1 hs with e | e; cases e; exact e) hl, h2⟩
  | .global v :: xs, p, h => by
    obtain ⟨h1, h2⟩ := imps_out (xs := xs) h
    exact ⟨fun q s b a hs hl => h1 q s b a (by rcases List.mem_cons.1 hs with e | e; cases e; exact e) hl, h2⟩
  | .func v :: xs, p, h => by
    obtain ⟨h1, h2⟩ := imps_out (xs := xs) h
    exact ⟨fun q s b a hs hl => h1 q s b a (by rcases List.mem_cons.1 hs with e | e; cases e; exact e) hl, h2⟩
theorem opn_look {F : Fr} : ∀ {xs : List Operand} {s : Nat} {y : AV}, look (opn F xs) s = some y → look F s = some y ∨ ∃ b, look F s = some (.opt b y) ∧ Operand.tmp s ∈ xs
  | [], _, _, h => .inl h
  | .tmp t :: xs, s, y, h => by
    unfold opn at h
    split at h
    · rename_i b a e
      by_cases es : t = s
      · subst es
        rw [look_cons_self] at h
        cases h
        exact .inr ⟨b, e, by simp⟩
      · rw [look_cons_ne _ _ es] at h
        exact (opn_look h).imp id fun ⟨b, h1, h2⟩ => ⟨b, h1, by simp [h2]⟩
    · exact (opn_look h).imp id fun ⟨b, h1, h2⟩ => ⟨b, h1, by simp [h2]⟩
  | .const v :: xs, s, y, h => (opn_look (xs := xs) h).imp id fun ⟨b, h1, h2⟩ => ⟨b, h1, by simp [h2]⟩
  | .global v :: xs, s, y, h => (opn_look (xs := xs) h).imp id fun ⟨b, h1, h2⟩ => ⟨b, h1, by simp [h2]⟩
  | .func v :: xs, s, y, h => (opn_look (xs := xs) h).imp id fun ⟨b, h1, h2⟩ => ⟨b, h1, by simp [h2]⟩
section
variable {P : Program} {T : Tr} {c : Ctx} {n : Cfg} {ops : Array Oper} {Q : Exit → Act → World → Prop} {F : Fr} {L : List Ent}
theorem Gr.opn {o : Op} {ty : TypeId} {r : AV} (hb : ∀ t b a, Operand.tmp t ∈ o.operands.toList → look F t = some (.opt b a) → b = true) (h : Gr P c n o ty (opn F o.operands.toList) L r) : Gr P c n o ty F L r :=
  ⟨fun H w ρ hs hr d pos aft g => h.out H w ρ hs (fun x hm av hav => by
    cases x with
    | tmp s =>
      simp only [oget] at hav
      split at hav
      · rename_i hlt
        rcases opn_look hav with e | ⟨b, e, hx⟩
        · exact hr (.tmp s) hm av (by simp only [oget]; rw [hlt]; exact e)
        · have h1 := hr (.tmp s) hm (.opt b av) (by simp only [oget]; rw [hlt]; exact e)
          exact h1.inv_opt.1 (hb s b av hx e)
      · cases hav
    | _ => exact hr _ hm av hav) d pos aft g⟩
/-! the choice between two conditions -/
inductive BoolAt : AV → Bool → Bool → Prop
  | v (p : Bool) : BoolAt (.v (.bool p)) true p
  | opt (g p : Bool) : BoolAt (.opt g (.v (.bool p))) g p
theorem BoolAt.val {H : Cells} {a : AV} {g p : Bool} {v : Value} (h : BoolAt a g p) (hr : Rel H a v) (hg : g = true) : v = .bool p := by
  cases h with
  | v => exact hr.inv
  | opt => exact (hr.inv_opt.1 hg).inv
def rdB (n : Cfg) (F : Fr) (x : Operand) (w : Bool) (k : Bool → Prop) : Prop := rd n F x fun a => match a with
  | .v (.bool p) => k p
  | .opt g (.v (.bool p)) => Must w (g = true) (k p)
  | _ => False
theorem rdB_out {x : Operand} {w : Bool} {k : Bool → Prop} (h : rdB n F x w k) : ∃ a g p, oget n F x = some a ∧ BoolAt a g p ∧ (w = true → g = true) ∧ k p := by
  obtain ⟨a, e, h⟩ := rd_out h
  split at h
  · exact ⟨_, _, _, e, .v _, fun _ => rfl, h⟩
  · exact ⟨_, _, _, e, .opt _ _, h.h, h.k⟩
  · exact h.elim
def pck (n : Cfg) (w : Bool) (F : Fr) (b x y : Operand) (k : AV → Prop) : Prop :=
  rdB n F b w fun p => rdB n F x (w && p) fun q => rdB n F y (w && !p) fun r => match y with
    | .const (.bool false) => k (B (p && q))
    | _ => match x with
      | .const (.bool true) => k (B (p || r))
      | _ => k (B (cond p q r))
theorem pck_out {w : Bool} {b x y : Operand} {ty : TypeId} {k : AV → Prop} (h : pck n w F b x y k) : Out P c n w (.pick b x y) ty F L k := by
  obtain ⟨ab, gb, p, eb, hb, wb, h⟩ := rdB_out h
  obtain ⟨ax, gx, q, ex, hx, wx, h⟩ := rdB_out h
  obtain ⟨ay, gy, r, ey, hy, wy, h⟩ := rdB_out h
  have key : w = true → ∀ v, (p = true → v = q) → (p = false → v = r) → Gr P c n (.pick b x y) ty F L (B v) := fun hw v h1 h2 => by
    refine .pure fun H w' ρ _ hr d pos aft g => ?_
    have r1 := hb.val (hr b (by simp [Op.operands]) _ eb) (wb hw)
    cases p with
    | true =>
      have r2 := hx.val (hr x (by simp [Op.operands]) _ ex) (wx (by simp [hw]))
      exact ⟨.bool v, by simp [execOp, r1, asBool, r2, h1 rfl], .v _⟩
    | false =>
      have r2 := hy.val (hr y (by simp [Op.operands]) _ ey) (wy (by simp [hw]))
      exact ⟨.bool v, by simp [execOp, r1, asBool, r2, h2 rfl], .v _⟩
  split at h
  · have : r = false := by
      simp only [oget, Option.some.injEq] at ey
      subst ey
      cases hy; rfl
    exact ⟨_, fun hw => key hw _ (fun e => by rw [e]; simp) (fun e => by rw [e, this]; simp), h⟩
  · split at h
    · have : q = true := by
        simp only [oget, Option.some.injEq] at ex
        subst ex
        cases hx; rfl
      exact ⟨_, fun hw => key hw _ (fun e => by rw [e, this]; simp) (fun e => by rw [e]; simp), h⟩
    · exact ⟨_, fun hw => key hw _ (fun e => by rw [e]; rfl) (fun e => by rw [e]; rfl), h⟩

/-! one operation -/
def grO (P : Program) (T : Tr) (c : Ctx) (n : Cfg) (w : Bool) (F : Fr) (L : List Ent) (ty : TypeId) (o : Op) (k : AV → Prop) : Prop := match o with
  | .pick b x y => pck n w F b x y k
  | o => imps w F o.operands.toList fun G => gr P T c n w G L ty o k
def stp (P : Program) (T : Tr) (c : Ctx) (n : Cfg) (ops : Array Oper) (op : Op) (ty : TypeId) (gd : Option (Nat × Bool)) (F : Fr) (L : List Ent) (k : AV → Prop) : Prop := match gd with
  | none => match op with
    | .pick b x y => pck n true F b x y k
    | op => gr P T c n true F L ty op k
  | some g => match wantB ops n F (some g) with
    | some w => grO P T c n w F L ty op fun r => k (.opt w r)
    | none => False
theorem grO_out [TabOK P T] {w : Bool} {ty : TypeId} {o : Op} {k : AV → Prop} (h : grO P T c n w F L ty o k) : Out P c n w o ty F L k := by
  unfold grO at h
  split at h
  · exact pck_out h
  · obtain ⟨h1, h2⟩ := imps_out h
    obtain ⟨r, h3, h4⟩ := gr_out h2
    exact ⟨r, fun hw => (h3 hw).opn (h1 hw), h4⟩
theorem stp_out [TabOK P T] {o : Oper} {k : AV → Prop} (h : stp P T c n ops o.op o.type o.guard F L k) : ∃ r, YieldsA P c n L ops o F r ∧ k r := by
  unfold stp at h
  split at h
  · rename_i hg
    have hw : wantB ops n F o.guard = some true := by rw [hg]; rfl
    split at h
    · rename_i ho
      obtain ⟨r, h1, h2⟩ := pck_out (P := P) (c := c) (L := L) (ty := o.type) h
      exact ⟨r, .run ⟨hw, by rw [ho]; exact h1 rfl⟩, h2⟩
    · obtain ⟨r, h1, h2⟩ := gr_out h
      exact ⟨r, .run ⟨hw, h1 rfl⟩, h2⟩
  · rename_i g hg
    split at h
    · rename_i w hw
      obtain ⟨r, h1, h2⟩ := grO_out h
      exact ⟨_, ⟨w, r, by rw [hg]; exact hw, h1, .inr (.inr rfl)⟩, h2⟩
    · exact h.elim
theorem Lx.yld {o : Oper} {rest : List Oper} {r : AV} (h : YieldsA P c n L ops o F r) (k : Lx P c n ops Q rest (putF o.dst r F) L) : Lx P c n ops Q (o :: rest) F L :=
  ⟨fun H w a hs hF => by
    refine wpList_step fun K hK => ?_
    rcases h.cases with ⟨q, hw, hg, hrr⟩ | ⟨hw, hrr⟩
    · rw [if_pos (wanted_fit hF.size hF.rel hw)]
      exact oper_wp_grows hs (hg.out H w a.eval hs (hF.reads _) o.dst o.pos o.after o.guard) fun H' w' v hl hs' hr => hK _ _ (k.out H' w' _ hs' ((hF.mono hl).put (hrr _ _ hr) o.dst))
    · rw [if_neg (by rw [wanted_fit hF.size hF.rel hw]; simp)]
      exact hK _ _ (k.out H w _ hs (hF.put (hrr _) o.dst))⟩

/-! lists of operations -/
def putK (d : Option Tmp) (r : AV) (F : Fr) (k : Fr → Prop) : Prop := match d with
  | some d => k ((d, r) :: F)
  | none => k F
theorem putK_out {d : Option Tmp} {r : AV} {k : Fr → Prop} (h : putK d r F k) : k (putF d r F) := by cases d <;> exact h
structure LK (P : Program) (T : Tr) (c : Ctx) (n : Cfg) (ops : Array Oper) (K : Fr → List Ent → Prop) (l : List Oper) (F : Fr) (L : List Ent) : Prop where
  out : ∀ Q, (∀ F L, K F L → Ex c n Q .normal F L) → Lx P c n ops Q l F L
def isPure : Op → Bool
  | .binOp _ _ _ (.const (.slice _ _ _)) _ => false
  | .move _ | .assign _ | .pick _ _ _ | .load _ _ | .nilCheck _ | .binOp _ _ _ _ _ | .unOp _ _ _ | .convert _ _ _ | .makeFunc _ _ _ | .slice _ _ _ _ _ | .fieldAddr _ _ _ | .field _ _ _ | .indexAddr _ _ _ | .index _ _ _ | .extract _ _ | .build _ _ => true
  | .call ⟨.builtin .len, _, _⟩ | .call ⟨.builtin .max, _, _⟩ | .call ⟨.builtin .min, _, _⟩ => true
  | _ => false
def wpl (P : Program) (T : Tr) (c : Ctx) (n : Cfg) (ops : Array Oper) (K : Fr → List Ent → Prop) : List Oper → Fr → List Ent → Prop
  | [], F, L => K F L
  | ⟨d, op, ty, pos, aft, gd⟩ :: l, F, L => cond (isPure op) (stp P T c n ops op ty gd F L fun r => putK d r F fun F => wpl P T c n ops K l F L) (match gd with
    | none => match d with
      | some d => match op with
        | .alloc t => match T.get t with
          | some .no => False
          | some td => ∀ b, force ((zsOf td).map .v) fun cs => wpl P T c n ops K l ((d, .v (.pointer (some ⟨b, 0, none⟩))) :: F) (.blk b t false cs :: L)
          | none => False
        | .box t x => rd n F x fun a => match a with
          | .agg cs => ∀ b, wpl P T c n ops K l ((d, .v (.pointer (some ⟨b, 0, none⟩))) :: F) (.blk b t false cs :: L)
          | a => cond a.one (∀ b, wpl P T c n ops K l ((d, .v (.pointer (some ⟨b, 0, none⟩))) :: F) (.blk b t false [a] :: L)) False
        | op => LK P T c n ops K (⟨some d, op, ty, pos, aft, none⟩ :: l) F L
      | none => LK P T c n ops K (⟨none, op, ty, pos, aft, none⟩ :: l) F L
    | some g => LK P T c n ops K (⟨d, op, ty, pos, aft, some g⟩ :: l) F L)
variable {K : Fr → List Ent → Prop}
theorem wpl_out [TabOK P T] : ∀ {l : List Oper} {F : Fr} {L : List Ent}, wpl P T c n ops K l F L → LK P T c n ops K l F L
  | [], F, L, h => ⟨fun Q hQ => Lx.nil (hQ F L h)⟩
  | ⟨d, op, ty, pos, aft, gd⟩ :: l, F, L, h => by
    unfold wpl at h
    rcases cond_or h with ⟨_, h⟩ | ⟨_, h⟩
    · obtain ⟨r, h1, h2⟩ := stp_out (o := ⟨d, op, ty, pos, aft, gd⟩) h
      exact ⟨fun Q hQ => Lx.yld h1 ((wpl_out (putK_out h2)).out Q hQ)⟩
    · split at h
      · split at h
        · split at h
          · split at h
            · exact h.elim
            · rename_i td hn hd
              exact ⟨fun Q hQ => Lx.alloc (tab_zero inferInstance hd (fun e => hn (by rw [e]))) rfl fun b => (wpl_out (force_out (h b))).out Q hQ⟩
            · exact h.elim
          · obtain ⟨a, e, h⟩ := rd_out h
            split at h
            · exact ⟨fun Q hQ => Lx.boxA rfl e fun b => (wpl_out (h b)).out Q hQ⟩
            · have h1 := (cond_f h).1
              have h2 := (cond_f h).2
              exact ⟨fun Q hQ => Lx.box1 rfl e h1 fun b => (wpl_out (h2 b)).out Q hQ⟩
          · exact h
        · exact h
      · exact h
/-- the operations of a region of open order that may be told in their lexical order -/
def wpo (P : Program) (T : Tr) (c : Ctx) (n : Cfg) (ops : Array Oper) (L : List Ent) (K : Fr → Prop) : List Oper → Fr → Prop
  | [], F => K F
  | ⟨d, op, ty, _, _, gd⟩ :: l, F => cond (isPure op) (stp P T c n ops op ty gd F L fun r => putK d r F fun F => wpo P T c n ops L K l F) (match gd with
    | none => Ask P c n true op ty F L fun r => putK d r F fun F => wpo P T c n ops L K l F
    | some g => match wantB ops n F (some g) with
      | some w => imps w F op.operands.toList fun G => Ask P c n w op ty G L fun r => putK d (.opt w r) F fun F => wpo P T c n ops L K l F
      | none => False)
theorem wpo_out [TabOK P T] {K : Fr → Prop} : ∀ {l : List Oper} {F : Fr}, wpo P T c n ops L K l F → ∃ F', RunA P c n L ops l F F' ∧ K F'
  | [], F, h => ⟨F, .nil, h⟩
  | ⟨d, op, ty, pos, aft, gd⟩ :: l, F, h => by
    unfold wpo at h
    have key : ∃ r, YieldsA P c n L ops ⟨d, op, ty, pos, aft, gd⟩ F r ∧ wpo P T c n ops L K l (putF d r F) := by
      rcases cond_or h with ⟨_, h⟩ | ⟨_, h⟩
      · obtain ⟨r, h1, h2⟩ := stp_out (o := ⟨d, op, ty, pos, aft, gd⟩) h
        exact ⟨r, h1, putK_out h2⟩
      · split at h
        · obtain ⟨r, h1, h2⟩ := h.out
          exact ⟨r, .run ⟨rfl, h1 rfl⟩, putK_out h2⟩
        · split at h
          · rename_i w hw
            obtain ⟨h1, h2⟩ := imps_out h
            obtain ⟨r, h3, h4⟩ := h2.out
            exact ⟨.opt w r, ⟨w, r, hw, fun e => (h3 e).opn (h1 e), .inr (.inr rfl)⟩, putK_out h4⟩
          · exact h.elim
    obtain ⟨r, h1, h2⟩ := key
    obtain ⟨F', h3, h4⟩ := wpo_out h2
    exact ⟨F', .cons h1 h3, h4⟩
end
/-! code -/
abbrev KT := List Deferred → Exit → Fr → List Ent → Prop
structure CK (P : Program) (T : Tr) (c : Ctx) (m : Nat) (ro : Option Nat) (code : Code) (K : KT) (ds : List Deferred) (F : Fr) (L : List Ent) : Prop where
  out : ∀ Q, (∀ ds e F L, K ds e F L → Ex c ⟨m, ds, ro⟩ Q e F L) → Cx P c ⟨m, ds, ro⟩ code Q F L
def wpc (P : Program) (T : Tr) (c : Ctx) (m : Nat) (ro : Option Nat) : Code → KT → List Deferred → Fr → List Ent → Prop
  | .skip, K, ds, F, L => K ds .normal F L
  | .region id ops draw, K, ds, F, L => match draw with
    | false => cond (ops.toList.all fun o => noDef o.op) (wpl P T c ⟨m, ds, ro⟩ ops (fun F L => K ds .normal F L) ops.toList F L) (CK P T c m ro (.region id ops false) K ds F L)
    | true => CK P T c m ro (.region id ops true) K ds F L
  | .seq a b, K, ds, F, L => wpc P T c m ro a (fun ds e F L => match e with
    | .normal => wpc P T c m ro b K ds F L
    | e => K ds e F L) ds F L
  | .cond x a b, K, ds, F, L => rd ⟨m, ds, ro⟩ F x fun v => match v with
    | .v (.bool p) => Br p (wpc P T c m ro a K ds F L) (wpc P T c m ro b K ds F L)
    | _ => False
  | .block id a, K, ds, F, L => wpc P T c m ro a (fun ds e F L => match e with
    | .exit i => cond (Nat.beq i id) (K ds .normal F L) (K ds (.exit i) F L)
    | e => K ds e F L) ds F L
  | .exit id, K, ds, F, L => K ds (.exit id) F L
  | .ret, K, ds, F, L => K ds .ret F L
  | x, K, ds, F, L => CK P T c m ro x K ds F L
end Go.E2
namespace Go.E2
open Go.RowKit
section
variable {P : Program} {T : Tr} {c : Ctx} {m : Nat} {ro : Option Nat}
theorem wpc_out [hT : TabOK P T] : ∀ {x : Code} {K : KT} {ds : List Deferred} {F : Fr} {L : List Ent}, wpc P T c m ro x K ds F L → CK P T c m ro x K ds F L
  | .skip, K, ds, F, L, h => ⟨fun Q hQ => Cx.skip (hQ _ _ _ _ h)⟩
  | .region id ops draw, K, ds, F, L, h => by
    cases draw with
    | true => exact h
    | false =>
      simp only [wpc] at h
      rcases cond_or h with ⟨hd, h⟩ | ⟨_, h⟩
      · refine ⟨fun Q hQ => ?_⟩
        have := Cx.region (id := id) (P := P) (c := c) (n := ⟨m, ds, ro⟩) (Q := Q) (F := F) (L := L) (l := ops.toList) hd (by
          rw [Array.toArray_toList]
          exact (wpl_out h).out Q fun F L hk => hQ _ _ _ _ hk)
        rwa [Array.toArray_toList] at this
      · exact h
  | .seq a b, K, ds, F, L, h => ⟨fun Q hQ => Cx.seq fun K' hK => (wpc_out (x := a) h).out K' fun ds e F L hk => by
      cases e with
      | normal => exact Ex.seq hK ((wpc_out (x := b) hk).out Q hQ)
      | exit i => exact hK.other ds _ F L (by simp) (hQ _ _ _ _ hk)
      | goto i => exact hK.other ds _ F L (by simp) (hQ _ _ _ _ hk)
      | ret => exact hK.other ds _ F L (by simp) (hQ _ _ _ _ hk)
      | panic i => exact hK.other ds _ F L (by simp) (hQ _ _ _ _ hk)
      | outgrown => exact hK.other ds _ F L (by simp) (hQ _ _ _ _ hk)⟩
  | .cond x a b, K, ds, F, L, h => by
    obtain ⟨v, e, h⟩ := rd_out h
    split at h
    · exact ⟨fun Q hQ => Cx.cond e (fun q => (wpc_out (x := a) (h.t q)).out Q hQ) (fun q => (wpc_out (x := b) (h.f q)).out Q hQ)⟩
    · exact h.elim
  | .block id a, K, ds, F, L, h => ⟨fun Q hQ => Cx.block fun K' hK => (wpc_out (x := a) h).out K' fun ds e F L hk => by
      cases e with
      | normal => exact hK.norm ds F L (hQ _ .normal _ _ hk)
      | exit i =>
        rcases cond_or hk with ⟨e, h1⟩ | ⟨e, h1⟩
        · have := Nat.eq_of_beq_eq_true e
          clear hk
          subst this
          exact hK.out ds F L (hQ _ _ _ _ h1)
        · exact hK.other ds _ F L (by simp) (fun q => by cases q; simp at e) (hQ _ _ _ _ h1)
      | goto i => exact hK.other ds _ F L (by simp) (by simp) (hQ _ _ _ _ hk)
      | ret => exact hK.other ds _ F L (by simp) (by simp) (hQ _ _ _ _ hk)
      | panic i => exact hK.other ds _ F L (by simp) (by simp) (hQ _ _ _ _ hk)
      | outgrown => exact hK.other ds _ F L (by simp) (by simp) (hQ _ _ _ _ hk)⟩
  | .exit id, K, ds, F, L, h => ⟨fun Q hQ => Cx.exit (hQ _ _ _ _ h)⟩
  | .ret, K, ds, F, L, h => ⟨fun Q hQ => Cx.ret (hQ _ _ _ _ h)⟩
  | .loop _, K, ds, F, L, h => h
  | .rangeFunc _ _ _ _, K, ds, F, L, h => h
  | .scope _, K, ds, F, L, h => h
  | .label _, K, ds, F, L, h => h
  | .goto _, K, ds, F, L, h => h
  | .refuse _, K, ds, F, L, h => h

/-! results -/
section
variable (P : Program) (c : Ctx) (n : Cfg)
structure AskR (r : ResultVar) (F : Fr) (L : List Ent) (k : AV → Prop) : Prop where
  out : ∃ x, Rv P c n r F L x ∧ k x
def rvs (F : Fr) (L : List Ent) : List ResultVar → (List AV → Prop) → Prop
  | [], k => k []
  | .tmp t :: rs, k => rd n F (.tmp t) fun a => rvs F L rs fun as => k (a :: as)
  | r :: rs, k => AskR P c n r F L fun a => rvs F L rs fun as => k (a :: as)
end
inductive Fin : List Ent → AV → (AV → List Ent → Prop) → Prop
  | out {L : List Ent} {a : AV} {Φ : AV → List Ent → Prop} (E : List Ent) (hE : E.Sublist L) (h : Φ a E) : Fin L a Φ
  | frzR {L : List Ent} {a : AV} {Φ : AV → List Ent → Prop} (i : Nat) {v : Value} {t : TypeId} {size m : Nat} {z : Bool} {xs : List AV} (hL : L[i]? = some (.row v t size m z xs)) (k : Fin (L.set i (.row v t size xs.length true xs)) a Φ) : Fin L a Φ
  | frzB {L : List Ent} {a : AV} {Φ : AV → List Ent → Prop} (i : Nat) {g : Nat} {t : TypeId} {z : Bool} {cs : List AV} (hL : L[i]? = some (.blk g t z cs)) (k : Fin (L.set i (.blk g t true cs)) a Φ) : Fin L a Φ
  | see {L : List Ent} {a b : AV} {Φ : AV → List Ent → Prop} (hs : Sb L a b) (k : Fin L b Φ) : Fin L a Φ
  | nilrow {L : List Ent} {a : AV} {Φ : AV → List Ent → Prop} (t : TypeId) (size : Nat) (k : Fin (.row (.slice none 0 0) t size 0 false [] :: L) a Φ) : Fin L a Φ
theorem Fin.sound {H : Cells} {w : World} {L : List Ent} {a : AV} {v : Value} {Φ : AV → List Ent → Prop} (h : Fin L a Φ) (hs : St c H w L) (hr : Rel H a v) : ∃ a' H' E, Φ a' E ∧ Rel H' a' v ∧ St c H' w E := by
  induction h generalizing H with
  | out E hE h => exact ⟨_, H, E, h, hr, hs.sub hE⟩
  | frzR i hL k ih => obtain ⟨H', hl, hs'⟩ := hs.freezeRow hL; exact ih hs' (hr.mono hl)
  | frzB i hL k ih => obtain ⟨H', hl, hs', _⟩ := hs.freezeBlk hL; exact ih hs' (hr.mono hl)
  | see hb k ih => exact ih hs (hb.rel hs hr)
  | nilrow t size k ih => exact ih (hs.nilrow t size) hr
def tupOf : List AV → AV
  | [a] => a
  | as => .tup as
def topK (P : Program) (c : Ctx) (m : Nat) (rs : List ResultVar) (Φ : AV → List Ent → Prop) : KT := fun ds e F L => match ds with
  | [] => match e with
    | .ret => rvs P c ⟨m, [], none⟩ F L rs fun as => match as with
      | [a] => Fin L a Φ
      | as => Fin L (.tup as) Φ
    | .normal => match rs with
      | [] => Fin L (.tup []) Φ
      | _ => False
    | _ => False
  | _ => False
theorem rvs_out {n : Cfg} {F : Fr} {L : List Ent} : ∀ {rs : List ResultVar} {k : List AV → Prop}, rvs P c n F L rs k → ∃ as, k as ∧ ∀ H w a, St c H w L → Fit H n F a → ∃ vs, (rs.mapM (rvSem a.tmps)).run P w = .ok vs w ∧ RelL H as vs
  | [], k, h => ⟨[], h, fun H w a _ _ => ⟨[], by simp, .nil⟩⟩
  | r :: rs, k, h => by
    have key : ∃ x, Rv P c n r F L x ∧ rvs P c n F L rs fun as => k (x :: as) := by
      cases r with
      | tmp t =>
        obtain ⟨x, e, h⟩ := rd_out h
        exact ⟨x, Rv.tmp e, h⟩
      | cell a t => exact h.out
    obtain ⟨x, h1, h2⟩ := key
    obtain ⟨as, h3, h4⟩ := rvs_out h2
    refine ⟨x :: as, h3, fun H w a hs hF => ?_⟩
    obtain ⟨v, e1, r1⟩ := h1.out H w a hs hF
    obtain ⟨vs, e2, r2⟩ := h4 H w a hs hF
    exact ⟨v :: vs, by rw [List.mapM_cons]; simp [e1, e2], .cons r1 r2⟩
theorem topK_out {fn : Func} {Φ : AV → List Ent → Prop} {K : Exit → Act → World → Prop} (hk : Ktop P c m fn Φ K) {rs : List ResultVar} (hr : fn.results = rs.toArray) : ∀ ds e F L, topK P c m rs Φ ds e F L → Ex c ⟨m, ds, none⟩ K e F L := by
  intro ds e F L h
  unfold topK at h
  split at h
  · split at h
    · obtain ⟨as, h1, h2⟩ := rvs_out h
      refine hk.out .ret F L ⟨fun H w a hs hF => ?_⟩
      obtain ⟨vs, e1, r1⟩ := h2 H w a hs hF
      have hrel : ∃ v, Rel H (tupOf as) v ∧ (results fn a.tmps).run P w = .ok v w := by
        rw [results_rv, hr]
        cases r1 with
        | nil => exact ⟨.tuple #[], .tup .nil, by simp [e1]⟩
        | cons h t =>
          cases t with
          | nil => exact ⟨_, h, by simp [e1]⟩
          | cons h' t => exact ⟨_, .tup (.cons h (.cons h' t)), by simp [e1]⟩
      obtain ⟨v, hv, hres⟩ := hrel
      have h1' : Fin L (tupOf as) Φ := by
        unfold tupOf
        split at h1 <;> exact h1
      obtain ⟨a', H', E, p1, p2, p3⟩ := h1'.sound hs hv
      exact bodyPost_ret (v := v) hres hF.ds ⟨v, a', H', E, rfl, p1, p2, p3⟩
    · split at h
      · refine hk.out .normal F L ⟨fun H w a hs hF => ?_⟩
        obtain ⟨a', H', E, p1, p2, p3⟩ := h.sound hs (v := .tuple #[]) (.tup .nil)
        exact bodyPost_end (v := .tuple #[]) (results_none (by rw [hr]) _ _ _) hF.ds ⟨_, a', H', E, rfl, p1, p2, p3⟩
      · exact h.elim
    · exact h.elim
  · exact h.elim
theorem topK_outL {fn : Func} {Φ : AV → List Ent → Prop} {K : Exit → Act → World → Prop} (hk : KtopL P c m fn Φ K) {rs : List ResultVar} (hr : fn.results = rs.toArray) : ∀ ds e F L, topK P c m rs Φ ds e F L → Ex c ⟨m, ds, none⟩ K e F L := by
  obtain ⟨c0, hu, ho⟩ := hk.ex
  intro ds e F L h
  unfold topK at h
  split at h
  · split at h
    · obtain ⟨as, h1, h2⟩ := rvs_out h
      refine ho .ret F L ⟨fun H w a hs hF => ?_⟩
      obtain ⟨vs, e1, r1⟩ := h2 H w a hs hF
      have hrel : ∃ v, Rel H (tupOf as) v ∧ (results fn a.tmps).run P w = .ok v w := by
        rw [results_rv, hr]
        cases r1 with
        | nil => exact ⟨.tuple #[], .tup .nil, by simp [e1]⟩
        | cons h t =>
          cases t with
          | nil => exact ⟨_, h, by simp [e1]⟩
          | cons h' t => exact ⟨_, .tup (.cons h (.cons h' t)), by simp [e1]⟩
      obtain ⟨v, hv, hres⟩ := hrel
      have h1' : Fin L (tupOf as) Φ := by
        unfold tupOf
        split at h1 <;> exact h1
      obtain ⟨a', H', E, p1, p2, p3⟩ := h1'.sound hs hv
      exact bodyPost_ret (v := v) hres hF.ds ⟨v, a', H', E, rfl, p1, p2, p3.le, hu _ _ _ p3⟩
    · split at h
      · refine ho .normal F L ⟨fun H w a hs hF => ?_⟩
        obtain ⟨a', H', E, p1, p2, p3⟩ := h.sound hs (v := .tuple #[]) (.tup .nil)
        exact bodyPost_end (v := .tuple #[]) (results_none (by rw [hr]) _ _ _) hF.ds ⟨_, a', H', E, rfl, p1, p2, p3.le, hu _ _ _ p3⟩
      · exact h.elim
    · exact h.elim
  · exact h.elim
def frmK : List AV → (Fr → Prop) → Prop
  | [], k => k []
  | [a0], k => k [(0, a0)]
  | [a0, a1], k => k [(0, a0), (1, a1)]
  | [a0, a1, a2], k => k [(0, a0), (1, a1), (2, a2)]
  | [a0, a1, a2, a3], k => k [(0, a0), (1, a1), (2, a2), (3, a3)]
  | [a0, a1, a2, a3, a4], k => k [(0, a0), (1, a1), (2, a2), (3, a3), (4, a4)]
  | [a0, a1, a2, a3, a4, a5], k => k [(0, a0), (1, a1), (2, a2), (3, a3), (4, a4), (5, a5)]
  | [a0, a1, a2, a3, a4, a5, a6], k => k [(0, a0), (1, a1), (2, a2), (3, a3), (4, a4), (5, a5), (6, a6)]
  | [a0, a1, a2, a3, a4, a5, a6, a7], k => k [(0, a0), (1, a1), (2, a2), (3, a3), (4, a4), (5, a5), (6, a6), (7, a7)]
  | l, k => k (argF 0 l)
theorem frmK_out {l : List AV} {k : Fr → Prop} (h : frmK l k) : k (argF 0 l) := by
  unfold frmK at h
  split at h <;> exact h
theorem fn_run [TabOK P T] {f : FuncId} {fn : Func} {x : Code} {args : List AV} {Φ : AV → List Ent → Prop} {rs : List ResultVar} (hf : P.funcs[f]? = some fn) (hb : fn.body = some x) (hn : fn.ntmps = m) (ha : Nat.ble args.length m = true) (hr : fn.results = rs.toArray)
    (h : ∀ c, frmK args fun F => wpc P T c m none x (topK P c m rs Φ) [] F []) : FnE P f args Φ :=
  fn_of hf hb hn ha fun c K hk => (wpc_out (frmK_out (h c))).out K (topK_out hk hr)
theorem fnL_run [TabOK P T] {f : FuncId} {fn : Func} {x : Code} {args : List AV} {L : List Ent} {Φ : AV → List Ent → Prop} {rs : List ResultVar} (hf : P.funcs[f]? = some fn) (hb : fn.body = some x) (hn : fn.ntmps = m) (ha : Nat.ble args.length m = true) (hr : fn.results = rs.toArray)
    (h : ∀ c' : Ctx, c'.w0 = c.w0 → frmK args fun F => wpc P T c' m none x (topK P c' m rs Φ) [] F L) : FnL P c f args L Φ :=
  fnL_of hf hb hn ha fun c' K hw _ hk => (wpc_out (frmK_out (h c' hw))).out K (topK_outL hk hr)
theorem Fin.seeP {L : List Ent} {a r : AV} (h : Sb L a r) : Fin L a (Is r) := .see h (.out [] (List.nil_sublist _) ⟨rfl, rfl⟩)
theorem Fin.pure {L : List Ent} {a r : AV} (h : a = r) : Fin L a (Is r) := .out [] (List.nil_sublist _) ⟨h, rfl⟩

/-! loops -/
inductive Nxt (ds ds' : List Deferred) (F0 : Fr) {σ : Type} (p : σ → Prop) (I : σ → Fr) (J : σ → List Ent) (μ : σ → Nat) (s : σ) : Fr → List Ent → Prop
  | mk {F : Fr} {L : List Ent} (hd : ds' = ds) (out : ∃ s', p s' ∧ μ s' < μ s ∧ Says F (I s' ++ F0) ∧ (J s').Sublist L) : Nxt ds ds' F0 p I J μ s F L
  | see {F : Fr} {L : List Ent} (t : Nat) {a b : AV} (h : look F t = some a) (hs : Sb L a b) (k : Nxt ds ds' F0 p I J μ s ((t, b) :: F) L) : Nxt ds ds' F0 p I J μ s F L
  | frzR {F : Fr} {L : List Ent} (i : Nat) {v : Value} {t : TypeId} {size m : Nat} {z : Bool} {xs : List AV} (hL : L[i]? = some (.row v t size m z xs)) (k : Nxt ds ds' F0 p I J μ s F (L.set i (.row v t size xs.length true xs))) : Nxt ds ds' F0 p I J μ s F L
  | frzB {F : Fr} {L : List Ent} (i : Nat) {g : Nat} {t : TypeId} {z : Bool} {cs : List AV} (hL : L[i]? = some (.blk g t z cs)) (k : Nxt ds ds' F0 p I J μ s F (L.set i (.blk g t true cs))) : Nxt ds ds' F0 p I J μ s F L
  | perm {F : Fr} {L L' : List Ent} (hp : L.Perm L') (k : Nxt ds ds' F0 p I J μ s F L') : Nxt ds ds' F0 p I J μ s F L
def memB (d : Nat) : List Nat → Bool
  | [] => false
  | x :: l => cond (Nat.beq d x) true (memB d l)
theorem memB_f {d : Nat} : ∀ {l : List Nat}, memB d l = false → d ∉ l
  | [], _ => by simp
  | x :: l, h => by
    unfold memB at h
    cases e : Nat.beq d x with
    | true => rw [e] at h; cases h
    | false =>
      rw [e] at h
      intro hm
      rcases List.mem_cons.1 hm with rfl | hm
      · simp at e
      · exact memB_f h hm
/-- the frame without the slots ms, and each slot once -/
def cutK : List Nat → Fr → (Fr → Prop) → Prop
  | _, [], k => k []
  | ms, (d, a) :: F, k => cond (memB d ms) (cutK ms F k) (cutK (d :: ms) F fun G => k ((d, a) :: G))
theorem cutK_out : ∀ {F : Fr} {ms : List Nat} {k : Fr → Prop}, cutK ms F k → ∃ G, (∀ s y, look G s = some y → s ∉ ms ∧ look F s = some y) ∧ k G
  | [], _, _, h => ⟨[], fun s y h => by simp [look] at h, h⟩
  | (d, a) :: F, ms, k, h => by
    unfold cutK at h
    rcases cond_or h with ⟨e, h⟩ | ⟨e, h⟩
    · obtain ⟨G, h1, h2⟩ := cutK_out h
      refine ⟨G, fun s y hs => ?_, h2⟩
      obtain ⟨g1, g2⟩ := h1 s y hs
      refine ⟨g1, ?_⟩
      rw [look_cons_ne _ _ (fun e' => ?_)]
      · exact g2
      · subst e'
        have : ∀ l : List Nat, memB d l = true → d ∈ l := fun l => by
          induction l with
          | nil => intro h; cases h
          | cons x l ih =>
            intro h
            unfold memB at h
            cases e : Nat.beq d x with
            | true => simp [Nat.eq_of_beq_eq_true e]
            | false => rw [e] at h; exact List.mem_cons_of_mem _ (ih h)
        exact g1 (this ms e)
    · obtain ⟨G, h1, h2⟩ := cutK_out h
      refine ⟨(d, a) :: G, fun s y hs => ?_, h2⟩
      by_cases es : d = s
      · subst es
        rw [look_cons_self] at hs ⊢
        exact ⟨memB_f e, hs⟩
      · rw [look_cons_ne _ _ es] at hs ⊢
        obtain ⟨g1, g2⟩ := h1 s y hs
        exact ⟨fun hm => g1 (List.mem_cons_of_mem _ hm), g2⟩
def appK : Fr → Fr → (Fr → Prop) → Prop
  | [], G, k => k G
  | p :: F, G, k => appK F G fun H => k (p :: H)
theorem appK_out : ∀ {F G : Fr} {k : Fr → Prop}, appK F G k → k (F ++ G)
  | [], _, _, h => h
  | _ :: F, _, _, h => appK_out (F := F) h
theorem CK.loop [TabOK P T] {x : Code} {K : KT} {ds : List Deferred} {F : Fr} {L : List Ent} {σ : Type} (ms : List Nat) (p : σ → Prop) (I : σ → Fr) (J : σ → List Ent) (μ : σ → Nat) (s0 : σ) (hp : p s0) (h0 : Says F (I s0)) (hL0 : (J s0).Sublist L)
    (round : cutK ms F fun F0 => ∀ s, p s → appK (I s) F0 fun G => wpc P T c m ro x (fun ds' e F L => match e with
      | .normal => Nxt ds ds' F0 p I J μ s F L
      | e => K ds' e F L) ds G (J s)) : CK P T c m ro (.loop x) K ds F L := by
  obtain ⟨F0, hF0, round⟩ := cutK_out round
  refine ⟨fun Q hQ => Cx.loopS p I J μ s0 F0 (fun t y ht => (hF0 t y ht).2) hp h0 hL0 fun s hs K' hK => ?_⟩
  refine (wpc_out (appK_out (round s hs))).out K' fun ds' e F L hk => ?_
  cases e with
  | normal =>
    have hk' : Nxt ds ds' F0 p I J μ s F L := hk
    clear hk
    induction hk' with
    | mk h out =>
      obtain ⟨s', h1, h2, h3, h4⟩ := out
      subst h
      exact hK.norm _ _ s' h1 h2 h3 h4
    | see t h hs _ ih => exact Ex.see t h hs ih
    | frzR i hL _ ih => exact Ex.frzR i hL ih
    | frzB i hL _ ih => exact Ex.frzB i hL ih
    | perm hp _ ih => exact Ex.perm hp ih
  | exit i => exact hK.other ds' _ F L (by simp) (hQ _ _ _ _ hk)
  | goto i => exact hK.other ds' _ F L (by simp) (hQ _ _ _ _ hk)
  | ret => exact hK.other ds' _ F L (by simp) (hQ _ _ _ _ hk)
  | panic i => exact hK.other ds' _ F L (by simp) (hQ _ _ _ _ hk)
  | outgrown => exact hK.other ds' _ F L (by simp) (hQ _ _ _ _ hk)
/-- the same, with entries R that stay as they are -/
theorem CK.loopK [TabOK P T] {x : Code} {K : KT} {ds : List Deferred} {F : Fr} {L : List Ent} {σ : Type} (ms : List Nat) (p : σ → Prop) (I : σ → Fr) (J : σ → List Ent) (R : List Ent) (μ : σ → Nat) (s0 : σ) (hp : p s0) (h0 : Says F (I s0)) (hL0 : (J s0 ++ R).Sublist L)
    (round : cutK ms F fun F0 => ∀ s, p s → appK (I s) F0 fun G => wpc P T c m ro x (fun ds' e F L => match e with
      | .normal => Nxt ds ds' F0 p I (fun s => J s ++ R) μ s F L
      | e => K ds' e F L) ds G (J s ++ R)) : CK P T c m ro (.loop x) K ds F L := CK.loop ms p I (fun s => J s ++ R) μ s0 hp h0 hL0 round
end
end Go.E2
namespace Go.E2
open Go.RowKit
section
variable {P : Program} {T : Tr} {c : Ctx} {n : Cfg} {ops : Array Oper} {F : Fr} {L : List Ent} {K : Fr → List Ent → Prop} [hT : TabOK P T]
variable {d : Option Tmp} {ty : TypeId} {pos : String} {aft : Array Edge} {rest : List Oper}
/-! stores -/
theorem LK.st1 {t U : TypeId} {x y : Operand} {g off : Nat} {cs : List AV} {r : AV} {td : TD} (i : Nat) (hd : T.get t = some td) (hL : L[i]? = some (.blk g U false cs)) (hx : oget n F x = some (.v (.pointer (some ⟨g, off, none⟩)))) (hy : oget n F y = some r)
    (h1 : (match td with | .no => false | .st _ _ _ => false | .arr _ _ _ _ => false | _ => true) = true) (ho : Nat.blt off cs.length = true) (hu : r.one = true) (k : force (cs.set off r) fun cs' => putK d (.v undef) F fun F => wpl P T c n ops K rest F (L.set i (.blk g U false cs'))) :
    LK P T c n ops K (⟨d, .store t x y, ty, pos, aft, none⟩ :: rest) F L :=
  ⟨fun Q hQ => Lx.st1 (load_one hd (by rintro rfl; cases h1) (by rintro _ _ _ rfl; cases h1) (by rintro _ _ _ _ rfl; cases h1)) rfl hx hy i hL ho hu ((wpl_out (putK_out (force_out k))).out Q hQ)⟩
theorem LK.stA {t U : TypeId} {kk : Nat} {x y : Operand} {g off : Nat} {cs vs : List AV} {td : TD} (i : Nat) (hd : T.get t = some td) (hL : L[i]? = some (.blk g U false cs)) (hx : oget n F x = some (.v (.pointer (some ⟨g, off, none⟩)))) (hy : oget n F y = some (.agg vs))
    (h1 : (match td with | .st k _ _ => some k | .arr l _ k _ => some (Nat.mul l k) | _ => none) = some kk) (hl : Nat.beq vs.length kk = true) (hl' : Nat.ble (off + kk) cs.length = true) (hu : vs.all AV.one = true) (k : force (cs.take off ++ vs ++ cs.drop (off + kk)) fun cs' => putK d (.v undef) F fun F => wpl P T c n ops K rest F (L.set i (.blk g U false cs'))) :
    LK P T c n ops K (⟨d, .store t x y, ty, pos, aft, none⟩ :: rest) F L := by
  have ha : AggT P t kk := by
    cases td with
    | st k' fs zs => simp only [Option.some.injEq] at h1; subst h1; exact (tab_st hT hd).1
    | arr l e k' zs => simp only [Option.some.injEq] at h1; subst h1; exact (tab_arr hT hd).2.1
    | _ => cases h1
  exact ⟨fun Q hQ => Lx.stA ha rfl hx hy i hL hl hl' hu ((wpl_out (putK_out (force_out k))).out Q hQ)⟩
theorem LK.stR {t U : TypeId} {x y : Operand} {v : Value} {a j k m : Nat} {z : Bool} {xs : List AV} {p r : AV} {td : TD} (i : Nat) (hd : T.get t = some td) (hL : L[i]? = some (.row v U k m z xs)) (hx : oget n F x = some (.v (.pointer (some ⟨blkOf v, a * k + j, none⟩)))) (hy : oget n F y = some r)
    (h1 : (match td with | .no => false | .st _ _ _ => false | .arr _ _ _ _ => false | _ => true) = true) (hm : m ≤ a) (hp : xs[a]? = some p) (hj : Nat.blt j p.cells.length = true) (hu : r.one = true) (kk : putK d (.v undef) F fun F => wpl P T c n ops K rest F (L.set i (.row v U k m false (xs.set a (p.setCell j r))))) :
    LK P T c n ops K (⟨d, .store t x y, ty, pos, aft, none⟩ :: rest) F L :=
  ⟨fun Q hQ => Lx.stR (load_one hd (by rintro rfl; cases h1) (by rintro _ _ _ rfl; cases h1) (by rintro _ _ _ _ rfl; cases h1)) rfl hx hy i hL hm hp hj hu ((wpl_out (putK_out kk)).out Q hQ)⟩
/-! append -/
theorem LK.app {t e : TypeId} {size bytes m : Nat} {z : Bool} {s x : Operand} {v : Value} {a : AV} {xs ys : List AV} (i : Nat) (hd : T.get t = some (.sl e size bytes)) (hL : L[i]? = some (.row v e size m z xs)) (hs : oget n F s = some (.v v)) (hx : oget n F x = some a)
    (hz : (Nat.blt 0 size && Nat.blt 0 bytes) = true) (hsb : Sb L a (.sl size ys)) (h1 : (ys.flatMap AV.cells).all AV.one = true) (hb : (xs.length + ys.length) * bytes ≤ 140737488355328)
    (k : ∀ v', putK d (.v v') F fun F => wpl P T c n ops K rest F (L.set i (.row v' e size m false (xs ++ ys)))) :
    LK P T c n ops K (⟨d, .call ⟨.builtin .append, #[s, x], #[t, t]⟩, ty, pos, aft, none⟩ :: rest) F L := by
  simp only [Bool.and_eq_true, Nat.blt_eq] at hz
  exact ⟨fun Q hQ => Lx.append ((tab_sl hT hd).2.2 hz.1 hz.2) rfl hs hx i hL hsb h1 hb fun v' => (wpl_out (putK_out (k v'))).out Q hQ⟩
/-! slice literals whose places are all given -/
def lit (k : Nat) : Nat → List (Nat × AV) → Option (List AV)
  | _, [] => some []
  | i, (j, a) :: l => match Nat.beq i j && (a.ok && Nat.beq a.cells.length k) with
    | true => match lit k (i + 1) l with
      | some xs => some (a :: xs)
      | none => none
    | false => none
theorem lit_spec {k : Nat} : ∀ {l : List (Nat × AV)} {i : Nat} {xs : List AV}, lit k i l = some xs → xs.length = l.length ∧ (∀ x ∈ xs, x.cells.length = k) ∧
    ∀ (ps qs : List AV), ps.length = i * k → qs.length = l.length * k → fillA (fun i => some (i * k, k)) (ps ++ qs) l = some (ps ++ xs.flatMap AV.cells)
  | [], i, xs, h => by
    simp only [lit, Option.some.injEq] at h
    subst h
    refine ⟨rfl, by simp, fun ps qs _ hq => ?_⟩
    have : qs = [] := List.eq_nil_of_length_eq_zero (by simpa using hq)
    subst this
    simp [fillA]
  | (j, a) :: l, i, xs, h => by
    simp only [lit] at h
    split at h
    · rename_i hc
      simp only [Bool.and_eq_true] at hc
      obtain ⟨h1, h2, h3⟩ := hc
      have h1 := Nat.eq_of_beq_eq_true h1
      have h3' := Nat.eq_of_beq_eq_true h3
      subst h1
      split at h
      · rename_i xs' e
        simp only [Option.some.injEq] at h
        subst h
        obtain ⟨g1, g2, g3⟩ := lit_spec e
        refine ⟨by simp [g1], ?_, fun ps qs hp hq => ?_⟩
        · intro x hx
          rcases List.mem_cons.1 hx with rfl | hx
          · exact h3'
          · exact g2 x hx
        · simp only [fillA]
          have hq' : qs.length = k + l.length * k := by rw [hq, List.length_cons, Nat.succ_mul]; omega
          have hle : (a.ok && (Nat.beq a.cells.length k && Nat.ble (i * k + k) (ps ++ qs).length)) = true := by
            simp only [Bool.and_eq_true]
            exact ⟨h2, h3, by rw [Nat.ble_eq, List.length_append]; omega⟩
          rw [hle]
          simp only
          have e1 : (ps ++ qs).take (i * k) = ps := by rw [← hp]; simp
          have e2 : (ps ++ qs).drop (i * k + k) = qs.drop k := by rw [← hp, ← List.drop_drop]; simp
          rw [e1, e2]
          have := g3 (ps ++ a.cells) (qs.drop k) (by rw [List.length_append, h3', hp, Nat.succ_mul]) (by rw [List.length_drop, hq']; omega)
          rw [this, List.flatMap_cons, List.append_assoc]
      · cases h
    · cases h
theorem bsl_of {t e len k bytes : Nat} {ps : List (Nat × AV)} {xs : List AV} (hd : T.get t = some (.sl e k bytes)) (hk : (Nat.blt 0 k && Nat.beq ps.length len && Nat.ble (len * k) 16777216) = true) (hl : lit k 0 ps = some xs) (hz : ∃ z, (P.info? e).bind (·.zero) = some z) : BslT P t e len k ps xs := by
  simp only [Bool.and_eq_true, Nat.blt_eq, Nat.ble_eq] at hk
  obtain ⟨⟨k1, k2⟩, k3⟩ := hk
  have k2 := Nat.eq_of_beq_eq_true k2
  obtain ⟨g1, g2, g3⟩ := lit_spec hl
  have hs := (tab_sl hT hd).1
  obtain ⟨z, hz⟩ := hz
  refine ⟨hs.und, hs.size, k1, by omega, k3, g2, z, hz, ?_⟩
  have := g3 [] ((((Array.range (len * k)).map (z.cells[· % z.cells.size]!)).toList.map AV.v)) (by simp) (by simp [k2])
  simpa using this
theorem sl_zero {t e k bytes : Nat} (hd : T.get t = some (.sl e k bytes)) : ∃ z, (P.info? e).bind (·.zero) = some z := by
  have := hT.td hd
  simp only [tdB, Bool.and_eq_true] at this
  obtain ⟨⟨_, _⟩, h4⟩ := this
  split at h4
  · rename_i i ei
    simp only [Bool.and_eq_true] at h4
    obtain ⟨_, h6⟩ := h4
    split at h6
    · rename_i z ez; exact ⟨z, by rw [ei]; simp [ez]⟩
    · cases h6
  · cases h4
theorem LK.bsl {t e len k bytes : Nat} {xs : Array (Nat × Operand)} {ps : List (Nat × AV)} {es : List AV} (hd : T.get t = some (.sl e k bytes)) (hv : ogetp n F xs.toList = some ps) (hk : (Nat.blt 0 k && Nat.beq ps.length len && Nat.ble (len * k) 16777216) = true) (hl : lit k 0 ps = some es)
    (kk : force es fun es => ∀ v, putK d (.v v) F fun F => wpl P T c n ops K rest F (.row v e k 0 false es :: L)) : LK P T c n ops K (⟨d, .buildSlice t len xs, ty, pos, aft, none⟩ :: rest) F L :=
  ⟨fun Q hQ => by
    have := Lx.buildSlice (P := P) (c := c) (n := n) (ops := ops) (Q := Q) (F := F) (L := L) (ty := ty) (d := d) (pos := pos) (aft := aft) (gd := none) (rest := rest) rfl hv (bsl_of hd hk hl (sl_zero hd)) fun v => (wpl_out (putK_out (force_out kk v))).out Q hQ
    rwa [Array.toArray_toList] at this⟩
/-- a slice literal that nobody writes to -/
theorem Gr.bslV {t e len k bytes : Nat} {xs : Array (Nat × Operand)} {ps : List (Nat × AV)} {es : List AV} (hd : T.get t = some (.sl e k bytes)) (hv : ogetp n F xs.toList = some ps) (hk : (Nat.blt 0 k && Nat.beq ps.length len && Nat.ble (len * k) 16777216) = true) (hl : lit k 0 ps = some es) : Gr P c n (.buildSlice t len xs) ty F L (.sl k es) := by
  have := Gr.bsl (P := P) (c := c) (n := n) (F := F) (L := L) (ty := ty) hv (bsl_of hd hk hl (sl_zero hd))
  rwa [Array.toArray_toList] at this
/-! whatever an operation leaves -/
theorem LK.gr {o : Op} {r : AV} (h : Gr P c n o ty F L r) (k : putK d r F fun F => wpl P T c n ops K rest F L) : LK P T c n ops K (⟨d, o, ty, pos, aft, none⟩ :: rest) F L := ⟨fun Q hQ => Lx.gr rfl h ((wpl_out (putK_out k)).out Q hQ)⟩
theorem LK.ask {o : Op} (h : Ask P c n true o ty F L fun r => putK d r F fun F => wpl P T c n ops K rest F L) : LK P T c n ops K (⟨d, o, ty, pos, aft, none⟩ :: rest) F L :=
  let ⟨_, h1, h2⟩ := h.out; LK.gr (h1 rfl) h2
theorem LK.askW {o : Op} {g : Nat × Bool} {w : Bool} (hw : wantB ops n F (some g) = some w) (h : imps w F o.operands.toList fun G => Ask P c n w o ty G L fun r => putK d (.opt w r) F fun F => wpl P T c n ops K rest F L) : LK P T c n ops K (⟨d, o, ty, pos, aft, some g⟩ :: rest) F L := by
  obtain ⟨h1, h2⟩ := imps_out h
  obtain ⟨r, h3, h4⟩ := h2.out
  exact ⟨fun Q hQ => Lx.grW hw (fun e => (h3 e).opn (h1 e)) ((wpl_out (putK_out h4)).out Q hQ)⟩
theorem LK.skip {o : Op} {g : Nat × Bool} (hw : wantB ops n F (some g) = some false) (k : putK d (.v undef) F fun F => wpl P T c n ops K rest F L) : LK P T c n ops K (⟨d, o, ty, pos, aft, some g⟩ :: rest) F L := ⟨fun Q hQ => Lx.skip hw ((wpl_out (putK_out k)).out Q hQ)⟩
/-! calls -/
theorem LK.call {f : FuncId} {x : Operand} {xs : List Operand} {as1 as2 : List AV} {ts : Array TypeId} {Φ : AV → List Ent → Prop} (hf : EntersT P f) (hc : FnE P f as2 Φ) (hx : oget n F x = some (.v (.func (.func f) #[] #[]))) (hv : ogets n F xs = some as1) (hsb : SbL L as1 as2)
    (k : ∀ a E, Φ a E → putK d a F fun F => wpl P T c n ops K rest F (E ++ L)) : LK P T c n ops K (⟨d, .call ⟨.value x, xs.toArray, ts⟩, ty, pos, aft, none⟩ :: rest) F L :=
  ⟨fun Q hQ => Lx.call hf rfl hx hv hsb hc fun a E hp => (wpl_out (putK_out (k a E hp))).out Q hQ⟩
theorem LK.callA {f : FuncId} {x : Operand} {xs : List Operand} {as1 as2 : List AV} {ts : Array TypeId} {r : AV} (hf : EntersT P f) (hc : FnA P f as2 r) (hx : oget n F x = some (.v (.func (.func f) #[] #[]))) (hv : ogets n F xs = some as1) (hsb : SbL L as1 as2)
    (k : putK d r F fun F => wpl P T c n ops K rest F L) : LK P T c n ops K (⟨d, .call ⟨.value x, xs.toArray, ts⟩, ty, pos, aft, none⟩ :: rest) F L := LK.gr (Gr.call hf hx hv hsb hc) k
theorem LK.callC {f : FuncId} {x : Operand} {xs : List Operand} {a : AV} {as1 as2 caps : List AV} {ts : Array TypeId} {r : AV} (hf : EntersT P f) (hx : oget n F x = some a) (hsx : Sb L a (.fn (.func f) caps)) (hv : ogets n F xs = some as1) (hsb : SbL L as1 as2) (hc : FnA P f (as2 ++ caps) r)
    (k : putK d r F fun F => wpl P T c n ops K rest F L) : LK P T c n ops K (⟨d, .call ⟨.value x, xs.toArray, ts⟩, ty, pos, aft, none⟩ :: rest) F L := LK.gr (Gr.callC hf hx hsx hv hsb hc) k
theorem Ask.callA {w : Bool} {f : FuncId} {x : Operand} {xs : List Operand} {as1 as2 : List AV} {ts : Array TypeId} {r : AV} {k : AV → Prop} (hf : EntersT P f) (hc : w = true → FnA P f as2 r) (hx : oget n F x = some (.v (.func (.func f) #[] #[]))) (hv : ogets n F xs = some as1) (hsb : SbL L as1 as2)
    (hk : k r) : Ask P c n w (.call ⟨.value x, xs.toArray, ts⟩) ty F L k := ⟨r, fun e => Gr.call hf hx hv hsb (hc e), hk⟩
end
section
variable {P : Program} {T : Tr} {c : Ctx} {n : Cfg} {ops : Array Oper} {F : Fr} {L : List Ent} {K : Fr → List Ent → Prop}
/-! ghost steps -/
/-- parting on a guard -/
theorem LK.split {l : List Oper} (s : Nat) {b : Bool} (hv : look F s = some (.v (.bool b))) (ht : b = true → LK P T c n ops K l ((s, .v (.bool true)) :: F) L) (hf : b = false → LK P T c n ops K l ((s, .v (.bool false)) :: F) L) : LK P T c n ops K l F L :=
  ⟨fun Q hQ => Lx.split s hv (fun e => (ht e).out Q hQ) (fun e => (hf e).out Q hQ)⟩
theorem LK.see {l : List Oper} (s : Nat) {a b : AV} (h : look F s = some a) (hs : Sb L a b) (k : LK P T c n ops K l ((s, b) :: F) L) : LK P T c n ops K l F L := ⟨fun Q hQ => Lx.see s h hs (k.out Q hQ)⟩
theorem LK.frzR {l : List Oper} (i : Nat) {v : Value} {t : TypeId} {size m : Nat} {z : Bool} {xs : List AV} (hL : L[i]? = some (.row v t size m z xs)) (k : LK P T c n ops K l F (L.set i (.row v t size xs.length true xs))) : LK P T c n ops K l F L := ⟨fun Q hQ => Lx.frzR i hL (k.out Q hQ)⟩
theorem LK.frzB {l : List Oper} (i : Nat) {g : Nat} {t : TypeId} {z : Bool} {cs : List AV} (hL : L[i]? = some (.blk g t z cs)) (k : LK P T c n ops K l F (L.set i (.blk g t true cs))) : LK P T c n ops K l F L := ⟨fun Q hQ => Lx.frzB i hL (k.out Q hQ)⟩
theorem LK.nilrow {l : List Oper} (t : TypeId) (size : Nat) (k : LK P T c n ops K l F (.row (.slice none 0 0) t size 0 false [] :: L)) : LK P T c n ops K l F L := ⟨fun Q hQ => Lx.nilrow t size (k.out Q hQ)⟩
theorem LK.sub {l : List Oper} {L' : List Ent} (hs : L'.Sublist L) (k : LK P T c n ops K l F L') : LK P T c n ops K l F L := ⟨fun Q hQ => Lx.sub hs (k.out Q hQ)⟩
end
section
variable {P : Program} {T : Tr} {c : Ctx} {m : Nat} {ro : Option Nat} {x : Code} {K : KT} {ds : List Deferred} {F : Fr} {L : List Ent}
theorem CK.see (s : Nat) {a b : AV} (h : look F s = some a) (hs : Sb L a b) (k : CK P T c m ro x K ds ((s, b) :: F) L) : CK P T c m ro x K ds F L := ⟨fun Q hQ => Cx.see s h hs (k.out Q hQ)⟩
theorem CK.frzR (i : Nat) {v : Value} {t : TypeId} {size q : Nat} {z : Bool} {xs : List AV} (hL : L[i]? = some (.row v t size q z xs)) (k : CK P T c m ro x K ds F (L.set i (.row v t size xs.length true xs))) : CK P T c m ro x K ds F L := ⟨fun Q hQ => Cx.frzR i hL (k.out Q hQ)⟩
theorem CK.frzB (i : Nat) {g : Nat} {t : TypeId} {z : Bool} {cs : List AV} (hL : L[i]? = some (.blk g t z cs)) (k : CK P T c m ro x K ds F (L.set i (.blk g t true cs))) : CK P T c m ro x K ds F L := ⟨fun Q hQ => Cx.frzB i hL (k.out Q hQ)⟩
theorem CK.nilrow (t : TypeId) (size : Nat) (k : CK P T c m ro x K ds F (.row (.slice none 0 0) t size 0 false [] :: L)) : CK P T c m ro x K ds F L := ⟨fun Q hQ => Cx.nilrow t size (k.out Q hQ)⟩
theorem CK.weak (G : Fr) {L' : List Ent} (hG : Says F G) (hL : L'.Sublist L) (k : CK P T c m ro x K ds G L') : CK P T c m ro x K ds F L := ⟨fun Q hQ => Cx.weak G hG hL (k.out Q hQ)⟩
theorem CK.perm {L' : List Ent} (hp : L.Perm L') (k : CK P T c m ro x K ds F L') : CK P T c m ro x K ds F L := ⟨fun Q hQ => Cx.perm hp (k.out Q hQ)⟩
/-! regions of open order -/
def growB (lits : Bool) (o : Oper) : Bool := isPure o.op || (match o.op with
  | .call ⟨.builtin _, _, _⟩ => false
  | .call _ => true
  | .buildSlice _ _ _ => lits
  | _ => false)
def tailP (lits : Bool) : List Oper → Nat
  | [] => 0
  | o :: l => cond (growB lits o) (tailP lits l + 1) 0
def anyB (ops : Array Oper) (p : Nat) : Bool := Nat.ble p ops.toList.length && (ops.toList.all fun o => noDef o.op) && lexTo ops p p 0 (lst 0 ops.toList.length) && (Nat.beq p ops.toList.length || tailB ops p ops.toList.length) && chainB ops (ops.toList.length - p) p (lst p ops.toList.length)
theorem CK.any [hT : TabOK P T] {id : Nat} {ops : Array Oper} (lits : Bool) (hB : anyB ops (tailP lits ops.toList) = true)
    (h : wpo P T c ⟨m, ds, ro⟩ ops L (fun F => wpl P T c ⟨m, ds, ro⟩ ops (fun F L => K ds .normal F L) (ops.toList.drop (tailP lits ops.toList)) F L) (ops.toList.take (tailP lits ops.toList)) F) : CK P T c m ro (.region id ops true) K ds F L := by
  simp only [anyB, Bool.and_eq_true] at hB
  obtain ⟨⟨⟨⟨h1, h2⟩, h3⟩, h4⟩, h5⟩ := hB
  refine ⟨fun Q hQ => ?_⟩
  obtain ⟨F', h6, h7⟩ := wpo_out h
  have e : ops.toList.toArray = ops := Array.toArray_toList
  have := Cx.any (P := P) (c := c) (n := ⟨m, ds, ro⟩) (Q := Q) (F := F) (L := L) (id := id) (l := ops.toList) (tailP lits ops.toList) hT.fol rfl h1 h2 (by rw [e]; exact h3) (by rw [e]; exact h4) (by rw [e]; exact h5) (by
    rw [e]
    exact ⟨F', h6, (wpl_out h7).out Q fun F L hk => hQ _ _ _ _ hk⟩)
  rwa [e] at this
/-! the end of a round -/
theorem Nxt.of {σ : Type} {p : σ → Prop} {I : σ → Fr} {J : σ → List Ent} {μ : σ → Nat} {s : σ} {F0 : Fr} (s' : σ) (ms : List Nat) (hd : F.drop (F.length - F0.length) = F0) (hA : ((F.take (F.length - F0.length)).all fun q => ms.contains q.1) = true) (hG : (F0.all fun q => !ms.contains q.1) = true)
    (hp : p s') (hμ : μ s' < μ s) (hI : Says F (I s')) (hL : (J s').Sublist L) : Nxt ds ds F0 p I J μ s F L :=
  .mk rfl ⟨s', hp, hμ, fun t y ht => by
    rw [look_append] at ht
    cases hI' : look (I s') t with
    | some z => rw [hI'] at ht; simp only [Option.some_or, Option.some.injEq] at ht; subst ht; exact hI t _ hI'
    | none =>
      rw [hI'] at ht
      simp only [Option.none_or] at ht
      have h1 := says_next hA hG t y ht
      have h2 := List.take_append_drop (F.length - F0.length) F
      rw [hd] at h2
      rwa [h2] at h1, hL⟩
end
end Go.E2
