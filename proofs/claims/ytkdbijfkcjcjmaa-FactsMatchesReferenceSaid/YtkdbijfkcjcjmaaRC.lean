/-
  The arguments of the rows of layer 12 as abstract values.
  Conditions: those of each theorem.
-/
import Derived.Test.YtkdbijfkcjcjmaaRows
import Derived.Test.YtkdbijfkcjcjmaaE3K
import Derived.Test.YtkdbijfkcjcjmaaF1
import Derived.JoinedCond
namespace Go.Proofs.Ytkdbijfkcjcjmaa
open Go.E2 Go.Wage
theorem own : ownKnob Try.prog.godebug = none := by kernel_rfl
theorem laid : laidOutB Try.prog = true := by kernel_rfl
def factDt : Dt := .st [.str, .str, .int .i64, .int .i64, .int .i64, .int .i64, .bool]
def storeDt : Dt := .st [.sl 7 factDt]
theorem dtI : DtOf Try.prog 3 (.int .i64) := .int Try.underlying3
theorem dtS : DtOf Try.prog 9 .str := .str Try.underlying9
theorem dtB : DtOf Try.prog 4 .bool := .bool Try.underlying4
theorem dtFact : DtOf Try.prog 26 factDt :=
  .st Try.underlying26 (.cons (k := 1) rfl (by kernel_rfl) dtS (.cons (k := 1) rfl (by kernel_rfl) dtS (.cons (k := 1) rfl (by kernel_rfl) dtI (.cons (k := 1) rfl (by kernel_rfl) dtI (.cons (k := 1) rfl (by kernel_rfl) dtI (.cons (k := 1) rfl (by kernel_rfl) dtI (.cons (k := 1) rfl (by kernel_rfl) dtB .nil))))))) (by kernel_rfl)
theorem dtFacts : DtOf Try.prog 22 (.sl 7 factDt) := .sl Try.underlying22 (by kernel_rfl) rfl dtFact
theorem dtInts : DtOf Try.prog 48 (.sl 1 (.int .i64)) := .sl Try.underlying48 (by kernel_rfl) rfl dtI
theorem dtStore : DtOf Try.prog 24 storeDt := .st Try.underlying24 (.cons (k := 1) rfl (by kernel_rfl) dtFacts .nil) (by kernel_rfl)
theorem dlI {ts : List TypeId} {ds : List Dt} (h : DtL Try.prog ts ds) : DtL Try.prog (3 :: ts) (.int .i64 :: ds) := .cons dtI (by kernel_rfl) (of_decide_eq_true (by kernel_rfl)) h
theorem dlS {ts : List TypeId} {ds : List Dt} (h : DtL Try.prog ts ds) : DtL Try.prog (9 :: ts) (.str :: ds) := .cons dtS (by kernel_rfl) (of_decide_eq_true (by kernel_rfl)) h
theorem dlF {ts : List TypeId} {ds : List Dt} (h : DtL Try.prog ts ds) : DtL Try.prog (26 :: ts) (factDt :: ds) := .cons dtFact (by kernel_rfl) (of_decide_eq_true (by kernel_rfl)) h
theorem dlT {ts : List TypeId} {ds : List Dt} (h : DtL Try.prog ts ds) : DtL Try.prog (24 :: ts) (storeDt :: ds) := .cons dtStore (by kernel_rfl) (of_decide_eq_true (by kernel_rfl)) h
theorem dlL {ts : List TypeId} {ds : List Dt} (h : DtL Try.prog ts ds) : DtL Try.prog (22 :: ts) (.sl 7 factDt :: ds) := .cons dtFacts (by kernel_rfl) (of_decide_eq_true (by kernel_rfl)) h
theorem dlD {ts : List TypeId} {ds : List Dt} (h : DtL Try.prog ts ds) : DtL Try.prog (48 :: ts) (.sl 1 (.int .i64) :: ds) := .cons dtInts (by kernel_rfl) (of_decide_eq_true (by kernel_rfl)) h
theorem dlU {ts : List TypeId} {ds : List Dt} (h : DtL Try.prog ts ds) : DtL Try.prog (46 :: ts) (.int .u16 :: ds) := .cons (.int Try.underlying46) (by kernel_rfl) (of_decide_eq_true (by kernel_rfl)) h
theorem has_int {k : IntKind} {cs : List AV} (h : Has (.int k) cs) : ∃ n, cs = [.v (.int k n)] ∧ (Lit.int k n).wf = true := by cases h with | int h => exact ⟨_, rfl, h⟩
theorem has_str {cs : List AV} (h : Has .str cs) : ∃ s, cs = [.v (.string s)] ∧ s.size ≤ 9223372036854775807 := by
  cases h with | str h => exact ⟨_, rfl, by simp [maxLen] at h; omega⟩
theorem has_bool {cs : List AV} (h : Has .bool cs) : ∃ b, cs = [.v (.bool b)] := by cases h with | bool => exact ⟨_, rfl⟩
theorem has_fact {x : AV} (h : Has factDt x.cells) (ha : isA x = true) : ∃ f : Fa, x = fcav f ∧ (f.person.size ≤ 9223372036854775807 ∧ f.name.size ≤ 9223372036854775807) := by
  cases x <;> first | (cases ha; done) | skip
  rename_i cs
  cases h with
  | st h =>
    cases h with | cons h1 h =>
    cases h with | cons h2 h =>
    cases h with | cons h3 h =>
    cases h with | cons h4 h =>
    cases h with | cons h5 h =>
    cases h with | cons h6 h =>
    cases h with | cons h7 h =>
    cases h
    obtain ⟨a, rfl, w1⟩ := has_str h1
    obtain ⟨b, rfl, w2⟩ := has_str h2
    obtain ⟨c, rfl, _⟩ := has_int h3
    obtain ⟨d, rfl, _⟩ := has_int h4
    obtain ⟨e, rfl, _⟩ := has_int h5
    obtain ⟨f, rfl, _⟩ := has_int h6
    obtain ⟨g, rfl⟩ := has_bool h7
    exact ⟨⟨a, b, c, d, e, f, g⟩, rfl, w1, w2⟩
theorem map_of2 {α : Type} {f : α → AV} {p : α → Prop} : ∀ {xs : List AV}, (∀ x ∈ xs, ∃ t, x = f t ∧ p t) → ∃ l : List α, xs = l.map f ∧ ∀ t ∈ l, p t
  | [], _ => ⟨[], rfl, by simp⟩
  | x :: xs, h => by
    obtain ⟨t, rfl, ht⟩ := h x (by simp)
    obtain ⟨l, rfl, hl⟩ := map_of2 (f := f) (p := p) (xs := xs) (fun y hy => h y (by simp [hy]))
    exact ⟨t :: l, rfl, by
      intro y hy
      rcases List.mem_cons.1 hy with rfl | hy
      · exact ht
      · exact hl y hy⟩
theorem has_facts {cs : List AV} (h : Has (.sl 7 factDt) cs) : ∃ l : List Fa, cs = [.sl 7 (l.map fcav)] ∧ (∀ f ∈ l, f.person.size ≤ 9223372036854775807 ∧ f.name.size ≤ 9223372036854775807) ∧ l.length ≤ 9223372036854775807 := by
  cases h with
  | sl g1 g2 g3 =>
    obtain ⟨l, rfl, hl⟩ := map_of2 (fun x hx => has_fact (g1 x hx) (g2 x hx))
    exact ⟨l, rfl, hl, by rw [List.length_map] at g3; simp [maxLen] at g3; omega⟩
theorem arg_facts {a : AV} (h : Has (.sl 7 factDt) a.cells) (ha : isA a = false) : ∃ l : List Fa, a = .sl 7 (l.map fcav) ∧ (∀ f ∈ l, f.person.size ≤ 9223372036854775807 ∧ f.name.size ≤ 9223372036854775807) ∧ l.length ≤ 9223372036854775807 := by
  rw [isA_cells ha] at h
  obtain ⟨l, h1, h2⟩ := has_facts h
  simp only [List.cons.injEq, and_true] at h1
  exact ⟨l, h1, h2⟩
theorem arg_store {a : AV} (h : Has storeDt a.cells) (ha : isA a = true) : ∃ l : List Fa, a = stav l ∧ (∀ f ∈ l, f.person.size ≤ 9223372036854775807 ∧ f.name.size ≤ 9223372036854775807) ∧ l.length ≤ 9223372036854775807 := by
  cases a <;> first | (cases ha; done) | skip
  rename_i cs
  cases h with
  | st h =>
    cases h with | cons h1 h =>
    cases h
    obtain ⟨l, rfl, h2⟩ := has_facts h1
    exact ⟨l, rfl, h2⟩
theorem arg_int {k : IntKind} {a : AV} (h : Has (.int k) a.cells) (ha : isA a = false) : ∃ n, a = .v (.int k n) ∧ (Lit.int k n).wf = true := by
  rw [isA_cells ha] at h
  obtain ⟨n, h1, h2⟩ := has_int h
  simp only [List.cons.injEq, and_true] at h1
  exact ⟨n, h1, h2⟩
theorem arg_str {a : AV} (h : Has .str a.cells) (ha : isA a = false) : ∃ s, a = .v (.string s) ∧ s.size ≤ 9223372036854775807 := by
  rw [isA_cells ha] at h
  obtain ⟨n, h1, h2⟩ := has_str h
  simp only [List.cons.injEq, and_true] at h1
  exact ⟨n, h1, h2⟩
theorem arg_ints {a : AV} (h : Has (.sl 1 (.int .i64)) a.cells) (ha : isA a = false) : ∃ l : List Int, a = .sl 1 (l.map I) ∧ l.length ≤ 9223372036854775807 := by
  rw [isA_cells ha] at h
  generalize hc : [a] = cs at h
  cases h with
  | sl g1 g2 g3 =>
    simp only [List.cons.injEq, and_true] at hc
    subst hc
    obtain ⟨l, rfl, hl⟩ := map_of2 (f := I) (p := fun _ => True) (fun x hx => by
      obtain ⟨n, h1, _⟩ := arg_int (g1 x hx) (by rw [g2 x hx]; rfl)
      exact ⟨n, h1, trivial⟩)
    exact ⟨l, rfl, by rw [List.length_map] at g3; simp [maxLen] at g3; omega⟩
end Go.Proofs.Ytkdbijfkcjcjmaa
