/-
  Plain part of layer 12: facts, stores, what Value returns.
  Conditions: those of each theorem.
-/
import Derived.Laws.Strings
namespace Go.Wage
structure Fa where
  person : ByteArray
  name : ByteArray
  frm : Int
  to_ : Int
  known : Int
  value : Int
  gone : Bool
deriving DecidableEq, Inhabited
def lowB (c : Nat) : Bool := decide (97 ≤ c) && decide (c ≤ 122)
def chB (c : UInt8) : Bool := lowB c.toNat || (decide (48 ≤ c.toNat) && decide (c.toNat ≤ 57)) || decide (c.toNat = 95)
def nameB (s : ByteArray) : Bool := decide (1 ≤ s.size) && decide (s.size ≤ 16) && lowB (s.data.toList.getD 0 0).toNat && s.data.toList.all chB
def wellB (f : Fa) : Bool := nameB f.person && nameB f.name && decide (0 ≤ f.frm ∧ f.frm < f.to_ ∧ f.to_ ≤ 36525 ∧ 0 ≤ f.known ∧ f.known ≤ 36524 ∧ -1000000000000 ≤ f.value ∧ f.value ≤ 1000000000000) && (!f.gone || decide (f.value = 0))
/-- the facts are well-formed, and each is known no earlier than the one before -/
def okF (fs : List Fa) (i : Nat) : Bool := wellB (fs.getD i default) && (decide (i = 0) || decide ((fs.getD (i - 1) default).known ≤ (fs.getD i default).known))
def validF (fs : List Fa) : Bool := decide (fs.length ≤ 400) && (List.range fs.length).all (okF fs)
def hitB (person name : ByteArray) (day known : Int) (f : Fa) : Bool := decide (f.known ≤ known) && decide (f.frm ≤ day) && decide (day < f.to_) && decide (f.name = name) && decide (f.person = person)
/-- the last fact that counts, with its number -/
def lastH (p : Fa → Bool) : List Fa → Nat → Option (Fa × Nat)
  | [], _ => none
  | f :: fs, i => match lastH p fs (i + 1) with
    | some x => some x
    | none => if p f then some (f, i) else none
def resR : Option (Fa × Nat) → Int × Int × Bool
  | some (f, i) => if f.gone then (0, -1, false) else (f.value, i, true)
  | none => (0, -1, false)
def lookR (fs : List Fa) (person name : ByteArray) (day known : Int) : Int × Int × Bool := resR (lastH (hitB person name day known) fs 0)
def valR (fs : List Fa) (person name : ByteArray) (day known : Int) : Int × Int × Bool := if validF fs then lookR fs person name day known else (0, -1, false)
def recR (fs : List Fa) (f : Fa) : List Fa × Int :=
  if validF fs && wellB f then (if 400 ≤ fs.length then ([], 2) else if decide (0 < fs.length) && decide (f.known < (fs.getD (fs.length - 1) default).known) then ([], 6) else (fs ++ [f], 0)) else ([], 1)
theorem lastH_none {p : Fa → Bool} : ∀ {fs : List Fa} {i : Nat}, (∀ k, k < fs.length → p (fs.getD k default) = false) → lastH p fs i = none
  | [], _, _ => rfl
  | f :: fs, i, h => by
    have h0 : p f = false := by simpa using h 0 (by simp)
    have ih := lastH_none (p := p) (fs := fs) (i := i + 1) fun k hk => by simpa using h (k + 1) (by simpa using hk)
    simp [lastH, ih, h0]
theorem lastH_some {p : Fa → Bool} : ∀ {fs : List Fa} {i j : Nat}, j < fs.length → p (fs.getD j default) = true → (∀ k, j < k → k < fs.length → p (fs.getD k default) = false) → lastH p fs i = some (fs.getD j default, i + j)
  | [], _, _, h, _, _ => by simp at h
  | f :: fs, i, 0, _, h1, h2 => by
    have ih := lastH_none (p := p) (fs := fs) (i := i + 1) fun k hk => by simpa using h2 (k + 1) (by omega) (by simpa using hk)
    have h1 : p f = true := by simpa using h1
    simp [lastH, ih, h1]
  | f :: fs, i, j + 1, hj, h1, h2 => by
    have ih := lastH_some (p := p) (fs := fs) (i := i + 1) (j := j) (by simpa using hj) (by simpa using h1) fun k hk hl => by simpa using h2 (k + 1) (by omega) (by simpa using hl)
    simp [lastH, ih]
    omega
end Go.Wage
