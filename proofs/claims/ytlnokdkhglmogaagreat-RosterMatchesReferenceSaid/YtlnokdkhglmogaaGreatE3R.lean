/-
  The engine, part R: what is to be shown of a piece of code, reckoned by the kernel (obligations alone are left).
  Conditions: none beyond the premises of each rule.
-/
import Derived.Test.YtlnokdkhglmogaaGreatE3P
import Derived.Test.YtlnokdkhglmogaaGreatE3H
import Derived.Test.YtlnokdkhglmogaaGreatE3N
namespace Go.E2
open Go.RowKit

/-! tables of types -/
inductive TD where
  | no
  | one (z : Value)
  | int (k : IntKind)
  | bool
  | str
  | sl (e k bytes : Nat)
  | st (k : Nat) (fs : List (Nat × Nat)) (zs : List Value)
  | arr (len e k : Nat) (zs : List Value)
inductive Tr where
  | nil
  | node (l : Tr) (v : TD) (r : Tr)
def Tr.get : Tr → Nat → Option TD
  | .nil, _ => none
  | .node l v r, i => cond (Nat.beq i 0) (some v) (cond (Nat.beq (Nat.mod i 2) 1) (l.get (Nat.div i 2)) (r.get (Nat.div (Nat.sub i 2) 2)))
def kn : IntKind → Nat
  | .i8 => 0 | .i16 => 1 | .i32 => 2 | .i64 => 3 | .u8 => 4 | .u16 => 5 | .u32 => 6 | .u64 => 7
def kq (a b : IntKind) : Bool := Nat.beq (kn a) (kn b) && Nat.blt (kn a) 8
theorem kq_eq {a b : IntKind} (h : kq a b = true) : a = b := by
  simp only [kq, Bool.and_eq_true] at h
  obtain ⟨h1, h2⟩ := h
  have h1 := Nat.eq_of_beq_eq_true h1
  cases a <;> cases b <;> simp_all [kn]
def vz : Value → Value → Bool
  | .int k n, .int k' n' => kq k k' && (match n, n' with | .ofNat a, .ofNat b => Nat.beq a b | _, _ => false)
  | .bool false, .bool false => true
  | .string s, .string s' => Nat.beq s.size 0 && Nat.beq s'.size 0
  | .slice none 0 0, .slice none 0 0 => true
  | .pointer none, .pointer none => true
  | .map none, .map none => true
  | .nilFunc, .nilFunc => true
  | .nilIface, .nilIface => true
  | _, _ => false
theorem vz_eq : ∀ {a b : Value}, vz a b = true → a = b := by
  intro a b h
  unfold vz at h
  split at h
  · simp only [Bool.and_eq_true] at h
    have := kq_eq h.1
    subst this
    have h2 := h.2
    split at h2
    · have := Nat.eq_of_beq_eq_true h2; subst this; rfl
    · cases h2
  · rfl
  · rename_i s s'
    simp only [Bool.and_eq_true] at h
    have h1 := Nat.eq_of_beq_eq_true h.1
    have h2 := Nat.eq_of_beq_eq_true h.2
    have e : ∀ q : ByteArray, q.size = 0 → q = ByteArray.empty := fun q hq => by
      obtain ⟨d⟩ := q
      have : d = #[] := Array.eq_empty_of_size_eq_zero hq
      subst this; rfl
    rw [e s h1, e s' h2]
  all_goals first | rfl | cases h
def vzs : List Value → List Value → Bool
  | [], [] => true
  | a :: as, b :: bs => vz a b && vzs as bs
  | _, _ => false
theorem vzs_eq : ∀ {a b : List Value}, vzs a b = true → a = b
  | [], [], _ => rfl
  | a :: as, b :: bs, h => by
    simp only [vzs, Bool.and_eq_true] at h
    rw [vz_eq h.1, vzs_eq h.2]
  | [], _ :: _, h => by cases h
  | _ :: _, [], h => by cases h
def szB (P : Program) (t k : Nat) : Bool := match P.info? t with
  | some i => Nat.beq i.size k
  | none => false
theorem szB_eq {P : Program} {t k : Nat} (h : szB P t k = true) : (P.info? t).map (·.size) = some k := by
  unfold szB at h
  split at h
  · rename_i i e; rw [e]; simp [Nat.eq_of_beq_eq_true h]
  · cases h
def zeB (P : Program) (t : Nat) (zs : List Value) : Bool := match P.info? t with
  | some i => match i.zero with
    | some z => vzs z.cells.toList zs
    | none => false
  | none => false
theorem zeB_eq {P : Program} {t : Nat} {zs : List Value} (h : zeB P t zs = true) : ∃ z, (P.info? t).bind (·.zero) = some z ∧ z.cells.toList = zs := by
  unfold zeB at h
  split at h
  · rename_i i e
    split at h
    · rename_i z e2; exact ⟨z, by rw [e]; simp [e2], vzs_eq h⟩
    · cases h
  · cases h
def flB (P : Program) : List Field → List (Nat × Nat) → Bool
  | [], [] => true
  | f :: fs, (o, s) :: os => Nat.beq f.offset o && szB P f.type s && flB P fs os
  | _, _ => false
theorem flB_eq {P : Program} : ∀ {fs : List Field} {os : List (Nat × Nat)}, flB P fs os = true → fs.length = os.length ∧ ∀ (i : Nat) (f : Field) (o s : Nat), fs[i]? = some f → os[i]? = some (o, s) → f.offset = o ∧ (P.info? f.type).map (·.size) = some s
  | [], [], _ => ⟨rfl, by simp⟩
  | f :: fs, (o, s) :: os, h => by
    simp only [flB, Bool.and_eq_true] at h
    obtain ⟨h1, h2⟩ := flB_eq h.2
    refine ⟨by simp [h1], fun i g o' s' hg ho => ?_⟩
    cases i with
    | zero =>
      simp only [List.getElem?_cons_zero, Option.some.injEq, Prod.mk.injEq] at hg ho
      obtain ⟨rfl, rfl⟩ := ho
      subst hg
      exact ⟨Nat.eq_of_beq_eq_true h.1.1, szB_eq h.1.2⟩
    | succ i => exact h2 i g o' s' (by simpa using hg) (by simpa using ho)
  | [], _ :: _, h => by cases h
  | _ :: _, [], h => by cases h
def tdB (P : Program) (t : Nat) : TD → Bool
  | .no => true
  | .one z => (match P.underlying t with | some d => !isAggD d | none => false) && szB P t 1 && zeB P t [z]
  | .int k => (match P.underlying t with | some (.int k') => kq k k' | _ => false) && szB P t 1 && zeB P t [.int k 0]
  | .bool => (match P.underlying t with | some .bool => true | _ => false) && szB P t 1 && zeB P t [.bool false]
  | .str => (match P.underlying t with | some .string => true | _ => false) && szB P t 1 && zeB P t [.string ByteArray.empty]
  | .sl e k b => (match P.underlying t with | some (.slice e') => Nat.beq e e' | _ => false) && (szB P t 1 && zeB P t [.slice none 0 0]) && szB P e k && (match P.info? e with
      | some i => Nat.beq i.bytes b && (match i.zero with | some z => Nat.beq z.cells.size k | none => false)
      | none => false)
  | .st k fs zs => (match P.underlying t with | some (.struct fl) => flB P fl.toList fs | _ => false) && szB P t k && zeB P t zs
  | .arr len e k zs => (match P.underlying t with | some (.array l' e') => Nat.beq l' len && Nat.beq e' e | _ => false) && szB P t (len * k) && szB P e k && zeB P t zs
def Tr.chk (P : Program) : Nat → Nat → Tr → Bool
  | _, _, .nil => true
  | m, a, .node l v r => tdB P a v && l.chk P (Nat.mul 2 m) (Nat.add a m) && r.chk P (Nat.mul 2 m) (Nat.add a (Nat.mul 2 m))
theorem Tr.chk_get {P : Program} : ∀ {T : Tr} {m a i : Nat} {d : TD}, T.chk P m a = true → T.get i = some d → tdB P (a + m * i) d = true
  | .nil, _, _, _, _, _, h => by cases h
  | .node l v r, m, a, i, d, hc, h => by
    simp only [Tr.chk, Bool.and_eq_true] at hc
    obtain ⟨⟨h1, h2⟩, h3⟩ := hc
    simp only [Tr.get] at h
    cases e0 : Nat.beq i 0 with
    | true =>
      rw [e0] at h
      simp only [cond_true, Option.some.injEq] at h
      subst h
      have := Nat.eq_of_beq_eq_true e0
      subst this
      simpa using h1
    | false =>
      have hi : i ≠ 0 := fun e => by subst e; simp at e0
      rw [e0] at h
      simp only [cond_false] at h
      cases e1 : Nat.beq (Nat.mod i 2) 1 with
      | true =>
        rw [e1] at h
        have e2 : i % 2 = 1 := Nat.eq_of_beq_eq_true e1
        have := Tr.chk_get h2 h
        have e3 : a.add m + Nat.mul 2 m * Nat.div i 2 = a + m * i := by
          show a + m + 2 * m * (i / 2) = a + m * i
          have : i = 2 * (i / 2) + 1 := by omega
          generalize i / 2 = q at *
          subst this
          rw [Nat.mul_add, Nat.mul_one, ← Nat.mul_assoc, Nat.mul_comm m 2]; omega
        rwa [e3] at this
      | false =>
        rw [e1] at h
        have e2 : i % 2 ≠ 1 := fun e => by rw [show Nat.mod i 2 = 1 from e] at e1; simp at e1
        have := Tr.chk_get h3 h
        have e3 : a.add (Nat.mul 2 m) + Nat.mul 2 m * Nat.div (Nat.sub i 2) 2 = a + m * i := by
          show a + 2 * m + 2 * m * ((i - 2) / 2) = a + m * i
          have : i = 2 * ((i - 2) / 2) + 2 := by omega
          generalize (i - 2) / 2 = q at *
          subst this
          rw [Nat.mul_add, ← Nat.mul_assoc, Nat.mul_comm m 2]; omega
        rwa [e3] at this
class TabOK (P : Program) (T : Tr) : Prop where
  out : T.chk P 1 0 = true
  fol : P.follows .mixedOrders = true
section tab
variable {P : Program} {T : Tr} {t : Nat}
theorem TabOK.td (h : TabOK P T) {d : TD} (hd : T.get t = some d) : tdB P t d = true := by
  have := Tr.chk_get h.out hd
  simpa using this
theorem tab_int (h : TabOK P T) {k : IntKind} (hd : T.get t = some (.int k)) : P.underlying t = some (.int k) ∧ OneT P t := by
  have := h.td hd
  simp only [tdB, Bool.and_eq_true] at this
  obtain ⟨⟨h1, h2⟩, _⟩ := this
  split at h1
  · rename_i e; have := kq_eq h1; subst this; exact ⟨e, ⟨⟨_, e, rfl⟩, szB_eq h2⟩⟩
  · cases h1
theorem tab_bool (h : TabOK P T) (hd : T.get t = some .bool) : P.underlying t = some .bool ∧ OneT P t := by
  have := h.td hd
  simp only [tdB, Bool.and_eq_true] at this
  obtain ⟨⟨h1, h2⟩, _⟩ := this
  split at h1
  · rename_i e; exact ⟨e, ⟨⟨_, e, rfl⟩, szB_eq h2⟩⟩
  · cases h1
theorem tab_str (h : TabOK P T) (hd : T.get t = some .str) : P.underlying t = some .string ∧ OneT P t := by
  have := h.td hd
  simp only [tdB, Bool.and_eq_true] at this
  obtain ⟨⟨h1, h2⟩, _⟩ := this
  split at h1
  · rename_i e; exact ⟨e, ⟨⟨_, e, rfl⟩, szB_eq h2⟩⟩
  · cases h1
theorem tab_one (h : TabOK P T) {z : Value} (hd : T.get t = some (.one z)) : OneT P t := by
  have := h.td hd
  simp only [tdB, Bool.and_eq_true] at this
  obtain ⟨⟨h1, h2⟩, _⟩ := this
  split at h1
  · rename_i d e; exact ⟨⟨_, e, by simpa using h1⟩, szB_eq h2⟩
  · cases h1
theorem tab_sl (h : TabOK P T) {e k b : Nat} (hd : T.get t = some (.sl e k b)) : SlcT P t e k ∧ OneT P t ∧ (0 < k → 0 < b → ApT P t e k b) := by
  have := h.td hd
  simp only [tdB, Bool.and_eq_true] at this
  obtain ⟨⟨⟨h1, h2, _⟩, h3⟩, h4⟩ := this
  split at h1
  · rename_i e' eu
    have := Nat.eq_of_beq_eq_true h1
    subst this
    refine ⟨⟨eu, szB_eq h3⟩, ⟨⟨_, eu, rfl⟩, szB_eq h2⟩, fun hk hb => ?_⟩
    split at h4
    · rename_i i ei
      simp only [Bool.and_eq_true] at h4
      obtain ⟨h5, h6⟩ := h4
      split at h6
      · rename_i z ez
        have hsz := szB_eq h3
        rw [ei] at hsz
        simp only [Option.map_some, Option.some.injEq] at hsz
        exact ⟨z, eu, by rw [ei]; simp [ez, hsz, Nat.eq_of_beq_eq_true h5], Nat.eq_of_beq_eq_true h6, hk, hb⟩
      · cases h6
    · cases h4
  · cases h1
theorem tab_st (h : TabOK P T) {k : Nat} {fs : List (Nat × Nat)} {zs : List Value} (hd : T.get t = some (.st k fs zs)) :
    AggT P t k ∧ (∀ (i o s : Nat), fs[i]? = some (o, s) → s ≠ 0 → FldT P t i o) ∧ LayT P t (zs.map .v) (fun i => fs[i]?) ∧ ZeroA P t (zs.map .v) := by
  have := h.td hd
  simp only [tdB, Bool.and_eq_true] at this
  obtain ⟨⟨h1, h2⟩, h3⟩ := this
  obtain ⟨z, hz, hzs⟩ := zeB_eq h3
  split at h1
  · rename_i fl eu
    obtain ⟨hl, hf⟩ := flB_eq h1
    refine ⟨⟨⟨_, eu, rfl⟩, szB_eq h2⟩, fun i o s hi hs => ?_, ?_, ⟨z, hz, by rw [hzs]⟩⟩
    · have hlt := (List.getElem?_eq_some_iff.1 hi).1
      obtain ⟨f, hfi⟩ : ∃ f, fl.toList[i]? = some f := ⟨_, List.getElem?_eq_getElem (by omega)⟩
      obtain ⟨h4, h5⟩ := hf i f o s hfi hi
      refine ⟨⟨fl, f, eu, by simpa using hfi, h4, ?_⟩⟩
      cases hinf : P.info? f.type with
      | none => rw [hinf] at h5; cases h5
      | some q => rw [hinf] at h5; simp only [Option.map_some, Option.some.injEq] at h5; simp [h5, hs]
    · have hp : ∀ w, (fl.mapM (m := Sem) fun f => Prod.mk f.offset <$> sizeOf f.type).run P w = .ok fs.toArray w := by
        intro w
        have key : ∀ (gs : List Field) (qs : List (Nat × Nat)), flB P gs qs = true → (gs.mapM (m := Sem) fun f => Prod.mk f.offset <$> sizeOf f.type).run P w = .ok qs w := by
          intro gs
          induction gs with
          | nil => intro qs hq; cases qs <;> simp_all [flB]
          | cons g gs ih =>
            intro qs hq
            cases qs with
            | nil => cases hq
            | cons q qs =>
              obtain ⟨o, s⟩ := q
              simp only [flB, Bool.and_eq_true] at hq
              rw [List.mapM_cons]
              have e1 := run_sizeOf' (szB_eq hq.1.2) w
              have e2 := Nat.eq_of_beq_eq_true hq.1.1
              simp [e1, ih qs hq.2, e2]
        rw [Array.mapM_eq_mapM_toList]
        simp [key _ _ h1]
      have := lay_struct (zs := zs.map .v) hz (by rw [hzs]) eu hp
      simpa using this
  · cases h1
theorem tab_arr (h : TabOK P T) {len e k : Nat} {zs : List Value} (hd : T.get t = some (.arr len e k zs)) : ArrT P t len e k ∧ AggT P t (len * k) ∧ LayT P t (zs.map .v) (fun i => some (i * k, k)) ∧ ZeroA P t (zs.map .v) := by
  have := h.td hd
  simp only [tdB, Bool.and_eq_true] at this
  obtain ⟨⟨⟨h1, h2⟩, h4⟩, h3⟩ := this
  obtain ⟨z, hz, hzs⟩ := zeB_eq h3
  split at h1
  · rename_i l' e' eu
    simp only [Bool.and_eq_true] at h1
    have e1 := Nat.eq_of_beq_eq_true h1.1
    have e2 := Nat.eq_of_beq_eq_true h1.2
    subst e1; subst e2
    have ha : ArrT P t l' e' k := ⟨eu, szB_eq h4⟩
    exact ⟨ha, ⟨⟨_, eu, rfl⟩, szB_eq h2⟩, lay_array (zs := zs.map .v) hz (by rw [hzs]) ha, ⟨z, hz, by rw [hzs]⟩⟩
  · cases h1
def zsOf : TD → List Value
  | .no => []
  | .one z => [z]
  | .int k => [.int k 0]
  | .bool => [.bool false]
  | .str => [.string ByteArray.empty]
  | .sl _ _ _ => [.slice none 0 0]
  | .st _ _ zs => zs
  | .arr _ _ _ zs => zs
theorem tab_zero (h : TabOK P T) {d : TD} (hd : T.get t = some d) (h0 : d ≠ .no) : ZeroA P t ((zsOf d).map .v) := by
  have := h.td hd
  have key : ∀ zs, zeB P t zs = true → ZeroA P t (zs.map .v) := fun zs hz => by
    obtain ⟨z, h1, h2⟩ := zeB_eq hz
    exact ⟨z, h1, by rw [h2]⟩
  cases d <;> simp only [tdB, Bool.and_eq_true] at this <;> first | exact absurd rfl h0 | exact key _ this.2 | exact key _ this.1.1.2.2
end tab
end Go.E2
