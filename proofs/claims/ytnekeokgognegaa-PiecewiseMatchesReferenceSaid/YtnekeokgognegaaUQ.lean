/-
  The arguments of PiecewiseMatchesReference's row as abstract values.
  Conditions: those of each theorem.
-/
import Derived.Test.YtnekeokgognegaaUR
namespace Go.Proofs.Ytnekeokgognegaa
open Go.E2 Go.Wage
def pcDt : Dt := .st [.int .i64, .int .i64, .int .i64]
def fnDt : Dt := .st [.int .i64, .sl 3 pcDt]
theorem dtPc : DtOf Try.prog 55 pcDt :=
  .st Try.underlying55 (.cons (k := 1) rfl (by kernel_rfl) dtI (.cons (k := 1) rfl (by kernel_rfl) dtI (.cons (k := 1) rfl (by kernel_rfl) dtI .nil))) (by kernel_rfl)
theorem dtFn : DtOf Try.prog 24 fnDt :=
  .st Try.underlying24 (.cons (k := 1) rfl (by kernel_rfl) dtI (.cons (k := 1) rfl (by kernel_rfl) (.sl Try.underlying22 (by kernel_rfl) rfl dtPc) .nil)) (by kernel_rfl)
theorem dlFn {ts : List TypeId} {ds : List Dt} (h : DtL Try.prog ts ds) : DtL Try.prog (24 :: ts) (fnDt :: ds) := .cons dtFn (by kernel_rfl) (of_decide_eq_true (by kernel_rfl)) h
theorem dl4 {ts : List TypeId} {ds : List Dt} (h : DtL Try.prog ts ds) : DtL Try.prog (26 :: ts) (.arr 4 (.int .i64) :: ds) := .cons (.arr (k := 1) Try.underlying26 (by kernel_rfl) (by kernel_rfl) dtI) (by kernel_rfl) (of_decide_eq_true (by kernel_rfl)) h
theorem has_pc {x : AV} (h : Has pcDt x.cells) (ha : isA x = true) : ∃ t : Pc, x = pav t ∧ True := by
  cases x <;> first | (cases ha; done) | skip
  rename_i cs
  cases h with
  | st h =>
    cases h with | cons h1 h =>
    cases h with | cons h2 h =>
    cases h with | cons h3 h =>
    cases h
    obtain ⟨a, rfl, _⟩ := has_int h1
    obtain ⟨b, rfl, _⟩ := has_int h2
    obtain ⟨c, rfl, _⟩ := has_int h3
    exact ⟨⟨a, b, c⟩, rfl, trivial⟩
theorem arg_fn {a : AV} (h : Has fnDt a.cells) (ha : isA a = true) : ∃ (d : Int) (l : List Pc), a = fav d l ∧ l.length ≤ 9223372036854775807 := by
  cases a <;> first | (cases ha; done) | skip
  rename_i cs
  cases h with
  | st h =>
    cases h with | cons h1 h =>
    cases h with | cons h2 h =>
    cases h
    obtain ⟨d, rfl, _⟩ := has_int h1
    cases h2 with
    | sl g1 g2 g3 =>
      obtain ⟨l, rfl, _⟩ := map_of2 (fun x hx => has_pc (g1 x hx) (g2 x hx))
      exact ⟨d, l, rfl, by rw [List.length_map] at g3; simp [maxLen] at g3; omega⟩
theorem arg_four {x : AV} (h : Has (.arr 4 (.int .i64)) x.cells) (ha : isA x = true) : ∃ a b c d : Int, x = .agg [I a, I b, I c, I d] ∧ inI a ∧ inI b ∧ inI c ∧ inI d := by
  cases x <;> first | (cases ha; done) | skip
  rename_i cs
  cases h with
  | arr h =>
    have h' : HasF [.int .i64, .int .i64, .int .i64, .int .i64] cs := h
    clear h
    cases h' with | cons h1 h =>
    cases h with | cons h2 h =>
    cases h with | cons h3 h =>
    cases h with | cons h4 h =>
    cases h
    obtain ⟨a, rfl, w1⟩ := has_int h1
    obtain ⟨b, rfl, w2⟩ := has_int h2
    obtain ⟨c, rfl, w3⟩ := has_int h3
    obtain ⟨d, rfl, w4⟩ := has_int h4
    exact ⟨a, b, c, d, rfl, inI_of w1, inI_of w2, inI_of w3, inI_of w4⟩
end Go.Proofs.Ytnekeokgognegaa
