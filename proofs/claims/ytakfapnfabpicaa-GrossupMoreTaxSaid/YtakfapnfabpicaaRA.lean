/-
  The arguments of the laws' rows as abstract values.
  Conditions: those of each theorem.
-/
import Derived.Test.YtakfapnfabpicaaRows
import Derived.Test.YtakfapnfabpicaaE2K
import Derived.Test.YtakfapnfabpicaaV15
import Derived.JoinedCond
namespace Go.Proofs.Ytakfapnfabpicaa
open Go.E2 Go.Wage
theorem own : ownKnob Try.prog.godebug = none := by kernel_rfl
theorem laid : laidOutB Try.prog = true := by kernel_rfl
def funcDt : Dt := .st [.int .i64, .sl 3 (.st [.int .i64, .int .i64, .int .i64])]
theorem dtI : DtOf Try.prog 3 (.int .i64) := .int Try.underlying3
theorem dtPc : DtOf Try.prog 39 (.st [.int .i64, .int .i64, .int .i64]) :=
  .st Try.underlying39 (.cons (k := 1) rfl (by kernel_rfl) dtI (.cons (k := 1) rfl (by kernel_rfl) dtI (.cons (k := 1) rfl (by kernel_rfl) dtI .nil))) (by kernel_rfl)
theorem dtFunc : DtOf Try.prog 24 funcDt :=
  .st Try.underlying24 (.cons (k := 1) rfl (by kernel_rfl) dtI (.cons (k := 1) rfl (by kernel_rfl) (.sl Try.underlying22 (by kernel_rfl) rfl dtPc) .nil)) (by kernel_rfl)
theorem dlF {ts : List TypeId} {ds : List Dt} (h : DtL Try.prog ts ds) : DtL Try.prog (24 :: ts) (funcDt :: ds) := .cons dtFunc (by kernel_rfl) (of_decide_eq_true (by kernel_rfl)) h
theorem dlI {ts : List TypeId} {ds : List Dt} (h : DtL Try.prog ts ds) : DtL Try.prog (3 :: ts) (.int .i64 :: ds) := .cons dtI (by kernel_rfl) (of_decide_eq_true (by kernel_rfl)) h
theorem dlU {ts : List TypeId} {ds : List Dt} (h : DtL Try.prog ts ds) : DtL Try.prog (5 :: ts) (.int .u8 :: ds) := .cons (.int Try.underlying5) (by kernel_rfl) (of_decide_eq_true (by kernel_rfl)) h
theorem has_int {k : IntKind} {cs : List AV} (h : Has (.int k) cs) : ∃ n, cs = [.v (.int k n)] ∧ (Lit.int k n).wf = true := by cases h with | int h => exact ⟨_, rfl, h⟩
theorem has_pc {x : AV} (h : Has (.st [.int .i64, .int .i64, .int .i64]) x.cells) (ha : isA x = true) : ∃ p : Pc, x = pav p := by
  cases x <;> first | (cases ha; done) | skip
  rename_i cs
  cases h with
  | st h =>
    cases h with | cons h1 h =>
    cases h with | cons h2 h =>
    cases h with | cons h3 h =>
    cases h
    obtain ⟨a, rfl, _⟩ := has_int h1
    obtain ⟨b, rfl, _⟩ := has_int h2
    obtain ⟨c, rfl, _⟩ := has_int h3
    exact ⟨⟨a, b, c⟩, rfl⟩
theorem map_of {α : Type} {f : α → AV} : ∀ {xs : List AV}, (∀ x ∈ xs, ∃ p, x = f p) → ∃ ps : List α, xs = ps.map f
  | [], _ => ⟨[], rfl⟩
  | x :: xs, h => by
    obtain ⟨p, rfl⟩ := h x (by simp)
    obtain ⟨ps, rfl⟩ := map_of (f := f) (xs := xs) (fun y hy => h y (by simp [hy]))
    exact ⟨p :: ps, rfl⟩
theorem arg_func {a : AV} (h : Has funcDt a.cells) (ha : isA a = true) : ∃ den ps, a = fav den ps ∧ ps.length ≤ 9223372036854775807 := by
  cases a <;> first | (cases ha; done) | skip
  rename_i cs
  cases h with
  | st h =>
    cases h with | cons h1 h =>
    cases h with | cons h2 h =>
    cases h
    obtain ⟨a, rfl, _⟩ := has_int h1
    cases h2 with
    | sl g1 g2 g3 =>
      obtain ⟨ps, rfl⟩ := map_of (fun x hx => has_pc (g1 x hx) (g2 x hx))
      exact ⟨a, ps, rfl, by rw [List.length_map] at g3; simp [maxLen] at g3; omega⟩
theorem arg_int {k : IntKind} {a : AV} (h : Has (.int k) a.cells) (ha : isA a = false) : ∃ n, a = .v (.int k n) ∧ (Lit.int k n).wf = true := by
  rw [isA_cells ha] at h
  obtain ⟨n, h1, h2⟩ := has_int h
  simp only [List.cons.injEq, and_true] at h1
  exact ⟨n, h1, h2⟩
end Go.Proofs.Ytakfapnfabpicaa
