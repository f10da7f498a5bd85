/-
  The engine, part S: the obligations of operations, regions and code.
  Conditions: none beyond the premises of each rule.
-/
import Derived.Test.YtlnokdkhglmogaaGreatE3R
namespace Go.E2
open Go.RowKit

/-! obligations -/
abbrev inR (n : Int) : Prop := -9223372036854775808 ≤ n ∧ n ≤ 9223372036854775807
structure Must (w : Bool) (q p : Prop) : Prop where
  h : w = true → q
  k : p
/-- a number that is in range, or wrapped -/
inductive MW (w : Bool) (q : Prop) (i : Int) (k : AV → Prop) : Prop
  | ok (h : w = true → q) (hk : k (I i)) : MW w q i k
  | wr (hk : k (.v (.int .i64 (IntKind.i64.wrap i)))) : MW w q i k
structure Br (b : Bool) (p q : Prop) : Prop where
  t : b = true → p
  f : b = false → q
theorem Br.tt {p q : Prop} (h : p) : Br true p q := ⟨fun _ => h, fun e => by cases e⟩
theorem Br.ff {p q : Prop} (h : q) : Br false p q := ⟨fun e => (by cases e), fun _ => h⟩
inductive Quo (w : Bool) (a b : Int) (k : Int → Prop) : Prop
  | nn (h : w = true → 0 ≤ a ∧ 1 ≤ b ∧ a ≤ 9223372036854775807) (hk : k (a / b)) : Quo w a b k
  | t (h : w = true → b ≠ 0 ∧ inR (a.tdiv b)) (hk : k (a.tdiv b)) : Quo w a b k
inductive Rem (w : Bool) (a b : Int) (k : Int → Prop) : Prop
  | nn (h : w = true → 0 ≤ a ∧ 1 ≤ b) (hk : k (a % b)) : Rem w a b k
  | t (h : w = true → b ≠ 0) (hk : k (a.tmod b)) : Rem w a b k
inductive Ix (w : Bool) (xs : List AV) (i : Int) (k : AV → Prop) : Prop
  | mk (r : AV) (h : w = true → 0 ≤ i ∧ xs[i.toNat]? = some r) (hk : k r) : Ix w xs i k
theorem Ix.at {w : Bool} {xs : List AV} {i : Int} {k : AV → Prop} {r : AV} (h : xs[i.toNat]? = some r) (h0 : w = true → 0 ≤ i) (hk : k r) : Ix w xs i k := ⟨r, fun e => ⟨h0 e, h⟩, hk⟩
theorem Ix.map {w : Bool} {i : Int} {k : AV → Prop} {α : Type} [Inhabited α] {f : α → AV} {ys : List α} (h : w = true → 0 ≤ i ∧ i < ys.length) (hk : k (f (ys.getD i.toNat default))) : Ix w (ys.map f) i k :=
  ⟨_, fun e => ⟨(h e).1, by
    have hlt : i.toNat < ys.length := by have := h e; omega
    rw [List.getElem?_map, List.getElem?_eq_getElem hlt]
    simp [List.getD, hlt]⟩, hk⟩
theorem Ix.mapN {w : Bool} {i : Nat} {k : AV → Prop} {α : Type} [Inhabited α] {f : α → AV} {ys : List α} (h : w = true → i < ys.length) (hk : k (f (ys.getD i default))) : Ix w (ys.map f) (i : Int) k := Ix.map (fun e => ⟨by omega, by have := h e; omega⟩) hk
theorem Ix.mapN1 {w : Bool} {i : Nat} {k : AV → Prop} {α : Type} [Inhabited α] {f : α → AV} {ys : List α} (h : w = true → i + 1 < ys.length) (hk : k (f (ys.getD (i + 1) default))) : Ix w (ys.map f) ((i : Int) + 1) k := Ix.map (fun e => ⟨by omega, by have := h e; omega⟩) hk
section
variable (P : Program) (T : Tr) (c : Ctx) (n : Cfg)
structure Ask (w : Bool) (o : Op) (ty : TypeId) (F : Fr) (L : List Ent) (k : AV → Prop) : Prop where
  out : ∃ r, (w = true → Gr P c n o ty F L r) ∧ k r
variable {P T c n}
theorem Ask.of {w : Bool} {o : Op} {ty : TypeId} {F : Fr} {L : List Ent} {k : AV → Prop} {r : AV} (h : Gr P c n o ty F L r) (hk : k r) : Ask P c n w o ty F L k := ⟨r, fun _ => h, hk⟩
theorem Ask.ofW {w : Bool} {o : Op} {ty : TypeId} {F : Fr} {L : List Ent} {k : AV → Prop} {r : AV} (h : w = true → Gr P c n o ty F L r) (hk : k r) : Ask P c n w o ty F L k := ⟨r, h, hk⟩
end

/-! reading -/
def rd (n : Cfg) (F : Fr) (x : Operand) (k : AV → Prop) : Prop := match oget n F x with
  | some a => k a
  | none => False
def rds (n : Cfg) (F : Fr) : List Operand → (List AV → Prop) → Prop
  | [], k => k []
  | x :: xs, k => rd n F x fun a => rds n F xs fun as => k (a :: as)
def rdp (n : Cfg) (F : Fr) : List (Nat × Operand) → (List (Nat × AV) → Prop) → Prop
  | [], k => k []
  | (i, x) :: xs, k => rd n F x fun a => rdp n F xs fun as => k ((i, a) :: as)
def nth : List AV → Nat → (AV → Prop) → Prop
  | [], _, _ => False
  | a :: _, 0, k => k a
  | _ :: l, i + 1, k => nth l i k
def takeK : List AV → Nat → (List AV → Prop) → Prop
  | _, 0, k => k []
  | a :: l, m + 1, k => takeK l m fun vs => k (a :: vs)
  | [], _ + 1, _ => False
def dropK : List AV → Nat → (List AV → Prop) → Prop
  | l, 0, k => k l
  | _ :: l, m + 1, k => dropK l m k
  | [], _ + 1, _ => False
def force : List AV → (List AV → Prop) → Prop
  | [], k => k []
  | a :: l, k => force l fun vs => k (a :: vs)
section
variable {n : Cfg} {F : Fr}
theorem rd_out {x : Operand} {k : AV → Prop} (h : rd n F x k) : ∃ a, oget n F x = some a ∧ k a := by
  unfold rd at h
  split at h
  · rename_i a e; exact ⟨a, e, h⟩
  · exact h.elim
theorem rds_out : ∀ {xs : List Operand} {k : List AV → Prop}, rds n F xs k → ∃ as, ogets n F xs = some as ∧ k as
  | [], _, h => ⟨[], rfl, h⟩
  | x :: xs, _, h => by
    obtain ⟨a, e, h⟩ := rd_out h
    obtain ⟨as, e2, h⟩ := rds_out h
    exact ⟨a :: as, by simp [ogets, e, e2], h⟩
theorem rdp_out : ∀ {xs : List (Nat × Operand)} {k : List (Nat × AV) → Prop}, rdp n F xs k → ∃ as, ogetp n F xs = some as ∧ k as
  | [], _, h => ⟨[], rfl, h⟩
  | (i, x) :: xs, _, h => by
    obtain ⟨a, e, h⟩ := rd_out h
    obtain ⟨as, e2, h⟩ := rdp_out h
    exact ⟨(i, a) :: as, by simp [ogetp, e, e2], h⟩
theorem nth_out : ∀ {l : List AV} {i : Nat} {k : AV → Prop}, nth l i k → ∃ a, l[i]? = some a ∧ k a
  | [], _, _, h => h.elim
  | a :: _, 0, _, h => ⟨a, rfl, h⟩
  | _ :: l, i + 1, _, h => by simpa using nth_out (l := l) (i := i) h
theorem takeK_out : ∀ {l : List AV} {m : Nat} {k : List AV → Prop}, takeK l m k → ∃ vs, l.take m = vs ∧ vs.length = m ∧ k vs
  | l, 0, _, h => ⟨[], by simp, rfl, by cases l <;> exact h⟩
  | a :: l, m + 1, _, h => by
    obtain ⟨vs, h1, h2, h3⟩ := takeK_out (l := l) (m := m) h
    exact ⟨a :: vs, by simp [h1], by simp [h2], h3⟩
  | [], _ + 1, _, h => h.elim
theorem dropK_out : ∀ {l : List AV} {m : Nat} {k : List AV → Prop}, dropK l m k → k (l.drop m)
  | l, 0, _, h => by cases l <;> exact h
  | _ :: l, m + 1, _, h => by simpa using dropK_out (l := l) (m := m) h
  | [], _ + 1, _, h => h.elim
theorem force_out : ∀ {l : List AV} {k : List AV → Prop}, force l k → k l
  | [], _, h => h
  | _ :: l, _, h => force_out (l := l) h
end

/-! pure operations -/
section
variable (P : Program) (T : Tr) (c : Ctx) (n : Cfg)
def binI (w : Bool) (b : BinOp) (q : IntKind) (i j : Int) (ask : Prop) (k : AV → Prop) : Prop := match b with
  | .add => match q with
    | .i64 => MW w (inR (i + j)) (i + j) k
    | q => k (.v (.int q (q.wrap (i + j))))
  | .sub => match q with
    | .i64 => MW w (inR (i - j)) (i - j) k
    | q => k (.v (.int q (q.wrap (i - j))))
  | .mul => match q with
    | .i64 => MW w (inR (i * j)) (i * j) k
    | q => k (.v (.int q (q.wrap (i * j))))
  | .quo => match q with
    | .i64 => Quo w i j fun r => k (I r)
    | _ => ask
  | .rem => Rem w i j fun r => k (.v (.int q r))
  | .lss => k (B (decide (i < j)))
  | .leq => k (B (decide (i ≤ j)))
  | .gtr => k (B (decide (j < i)))
  | .geq => k (B (decide (j ≤ i)))
  | .eql => k (B (decide (i = j)))
  | .neq => k (B (decide (i ≠ j)))
  | _ => ask
def bin (w : Bool) (b : BinOp) (d : Option TD) (a a' : AV) (ask : Prop) (k : AV → Prop) : Prop := match d with
  | some (.int q) => match a with
    | .v (.int q1 i) => match a' with
      | .v (.int q2 j) => cond (kq q q1 && kq q q2) (binI w b q i j ask k) ask
      | _ => ask
    | _ => ask
  | some .bool => match a with
    | .v (.bool p) => match a' with
      | .v (.bool p') => match b with
        | .eql => k (B (p == p'))
        | .neq => k (B (p != p'))
        | _ => ask
      | _ => ask
    | _ => ask
  | some .str => match a with
    | .v (.string s) => match a' with
      | .v (.string s') => match b with
        | .eql => k (B (decide (s = s')))
        | .neq => k (B (decide (s ≠ s')))
        | .lss => k (B (Op.bytesLess s.toList s'.toList))
        | _ => ask
      | _ => ask
    | _ => ask
  | _ => ask
def opc (x : Option Operand) (F : Fr) (k : Option AV → Prop) : Prop := match x with
  | none => k none
  | some x => rd n F x fun a => k (some a)
def asI : AV → (Int → Prop) → Prop → Prop
  | .v (.int _ i), k, _ => k i
  | _, _, p => p
def gr (w : Bool) (F : Fr) (L : List Ent) (ty : TypeId) (o : Op) (k : AV → Prop) : Prop := match o with
  | .move x => rd n F x k
  | .assign x => rd n F x k
  | .binOp b t x y t' => rd n F x fun a => rd n F y fun a' => bin w b (T.get t) a a' (Ask P c n w (.binOp b t x y t') ty F L k) k
  | .unOp .not t x => rd n F x fun a => match a with
    | .v (.bool b) => k (B (!b))
    | _ => Ask P c n w (.unOp .not t x) ty F L k
  | .unOp .neg t x => rd n F x fun a => match a with
    | .v (.int .i64 i) => Must w (inR (-i)) (k (I (-i)))
    | _ => Ask P c n w (.unOp .neg t x) ty F L k
  | .convert s d x => rd n F x fun a => match a with
    | .v (.int _ i) => match T.get s with
      | some (.int _) => match T.get d with
        | some (.int .i64) => Must w (inR i) (k (I i))
        | some (.int q) => k (.v (.int q (q.wrap i)))
        | _ => Ask P c n w (.convert s d x) ty F L k
      | _ => Ask P c n w (.convert s d x) ty F L k
    | _ => Ask P c n w (.convert s d x) ty F L k
  | .extract x i => rd n F x fun a => match a with
    | .tup as => nth as i k
    | _ => Ask P c n w (.extract x i) ty F L k
  | .nilCheck x => rd n F x fun a => match a with
    | .v (.pointer (some p)) => k (.v (.pointer (some p)))
    | .fp cs off => k (.fp cs off)
    | _ => Ask P c n w (.nilCheck x) ty F L k
  | .fieldAddr s x i => rd n F x fun a => match T.get s with
    | some (.st _ fs _) => match fs[i]? with
      | some (off, sz) => cond (Nat.beq sz 0) False (match a with
        | .v (.pointer (some ⟨g, o, none⟩)) => k (.v (.pointer (some ⟨g, Nat.add o off, none⟩)))
        | .fp cs o => k (.fp cs (Nat.add o off))
        | _ => Ask P c n w (.fieldAddr s x i) ty F L k)
      | none => False
    | _ => False
  | .indexAddr t x y => rd n F x fun a => rd n F y fun a' => match a with
    | .sl kk xs => match T.get t with
      | some (.sl _ k' _) => cond (Nat.beq kk k') (asI a' (fun i => Ix w xs i fun r => k (.fp r.cells 0)) False) False
      | _ => False
    | .fp cs o => match T.get t with
      | some (.arr len _ kk _) => asI a' (fun i => Must w (0 ≤ i ∧ i < len) (k (.fp cs (o + i.toNat * kk)))) False
      | _ => Ask P c n w (.indexAddr t x y) ty F L k
    | _ => Ask P c n w (.indexAddr t x y) ty F L k
  | .load t x => rd n F x fun a => match a with
    | .fp cs off => match T.get t with
      | some (.st kk _ _) => dropK cs off fun ds => takeK ds kk fun vs => k (.agg vs)
      | some (.arr len _ kk _) => dropK cs off fun ds => takeK ds (Nat.mul len kk) fun vs => k (.agg vs)
      | some .no => False
      | none => False
      | some _ => nth cs off k
    | _ => Ask P c n w (.load t x) ty F L k
  | .makeFunc fn first caps => match first.toList with
    | [] => rds n F caps.toList fun as => k (.fn fn as)
    | _ => Ask P c n w (.makeFunc fn first caps) ty F L k
  | .build t ps => rdp n F ps.toList fun as => match T.get t with
    | some (.st _ fs zs) => match fillA (fun i => fs[i]?) (zs.map .v) as with
      | some cs => force cs fun cs => k (.agg cs)
      | none => False
    | some (.arr _ _ kk zs) => match fillA (fun i => some (i * kk, kk)) (zs.map .v) as with
      | some cs => force cs fun cs => k (.agg cs)
      | none => False
    | _ => False
  | .slice t x lo hi mx => rd n F x fun a => match a with
    | .sl kk xs => match T.get t with
      | some (.sl _ k' _) => cond (Nat.beq kk k') (match mx with
        | none => match lo with
          | some y => match hi with
            | some z => rd n F y fun b => rd n F z fun d => asI b (fun i => asI d (fun j => Must w (0 ≤ i ∧ i ≤ j ∧ j ≤ xs.length) (k (.sl kk ((xs.drop i.toNat).take (j.toNat - i.toNat))))) False) False
            | none => rd n F y fun b => asI b (fun i => Must w (0 ≤ i ∧ i ≤ xs.length) (k (.sl kk (xs.drop i.toNat)))) False
          | none => match hi with
            | some z => rd n F z fun d => asI d (fun j => Must w (0 ≤ j ∧ j ≤ xs.length) (k (.sl kk (xs.take j.toNat)))) False
            | none => Ask P c n w (.slice t x lo hi mx) ty F L k
        | some _ => Ask P c n w (.slice t x lo hi mx) ty F L k) False
      | _ => False
    | _ => Ask P c n w (.slice t x lo hi mx) ty F L k
  | .call ⟨.builtin .len, xs, ts⟩ => match xs.toList with
    | [x] => match ts.toList with
      | [t] => rd n F x fun a => match T.get t with
        | some (.sl _ k' _) => (match a with
          | .sl kk ys => cond (Nat.beq kk k') (k (I ys.length)) False
          | _ => Ask P c n w (.call ⟨.builtin .len, xs, ts⟩) ty F L k)
        | some .str => (match a with
          | .v (.string s) => k (I s.size)
          | _ => Ask P c n w (.call ⟨.builtin .len, xs, ts⟩) ty F L k)
        | _ => Ask P c n w (.call ⟨.builtin .len, xs, ts⟩) ty F L k
      | _ => False
    | _ => False
  | .call ⟨.builtin .max, xs, ts⟩ => match xs.toList with
    | [x, y] => rd n F x fun a => rd n F y fun a' => match a with
      | .v (.int q i) => match a' with
        | .v (.int q' j) => cond (kq q q') (k (.v (.int q (max i j)))) False
        | _ => False
      | _ => False
    | _ => Ask P c n w (.call ⟨.builtin .max, xs, ts⟩) ty F L k
  | .call ⟨.builtin .min, xs, ts⟩ => match xs.toList with
    | [x, y] => rd n F x fun a => rd n F y fun a' => match a with
      | .v (.int q i) => match a' with
        | .v (.int q' j) => cond (kq q q') (k (.v (.int q (min i j)))) False
        | _ => False
      | _ => False
    | _ => Ask P c n w (.call ⟨.builtin .min, xs, ts⟩) ty F L k
  | o => Ask P c n w o ty F L k
end
end Go.E2
