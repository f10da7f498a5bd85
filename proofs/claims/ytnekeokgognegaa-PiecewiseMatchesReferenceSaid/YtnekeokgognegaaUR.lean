/-
  The arguments of law05's rows as abstract values.
  Conditions: those of each theorem.
-/
import Derived.Test.YtnekeokgognegaaRows
import Derived.Test.YtnekeokgognegaaE5F
import Derived.Test.YtnekeokgognegaaU7
import Derived.JoinedCond
namespace Go.Proofs.Ytnekeokgognegaa
open Go.E2 Go.Wage
theorem own : ownKnob Try.prog.godebug = none := by kernel_rfl
theorem laid : laidOutB Try.prog = true := by kernel_rfl
theorem dtI : DtOf Try.prog 3 (.int .i64) := .int Try.underlying3
theorem dtT : DtOf Try.prog 25 (.sl 3 (.arr 3 (.int .i64))) := .sl Try.underlying25 (by kernel_rfl) rfl (.arr (k := 1) Try.underlying56 (by kernel_rfl) (by kernel_rfl) dtI)
theorem dlT {ts : List TypeId} {ds : List Dt} (h : DtL Try.prog ts ds) : DtL Try.prog (25 :: ts) (.sl 3 (.arr 3 (.int .i64)) :: ds) := .cons dtT (by kernel_rfl) (of_decide_eq_true (by kernel_rfl)) h
theorem has_int {k : IntKind} {cs : List AV} (h : Has (.int k) cs) : ∃ n, cs = [.v (.int k n)] ∧ (Lit.int k n).wf = true := by cases h with | int h => exact ⟨_, rfl, h⟩
theorem inI_of {n : Int} (h : (Lit.int .i64 n).wf = true) : inI n := by
  unfold inI
  simpa [Lit.wf, IntKind.min, IntKind.max, IntKind.signed, IntKind.bits] using h
theorem has_t3 {x : AV} (h : Has (.arr 3 (.int .i64)) x.cells) (ha : isA x = true) : ∃ t : T3, x = tav t ∧ T3ok t := by
  cases x <;> first | (cases ha; done) | skip
  rename_i cs
  cases h with
  | arr h =>
    have h' : HasF [.int .i64, .int .i64, .int .i64] cs := h
    clear h
    cases h' with | cons h1 h =>
    cases h with | cons h2 h =>
    cases h with | cons h3 h =>
    cases h
    obtain ⟨a, rfl, w1⟩ := has_int h1
    obtain ⟨b, rfl, w2⟩ := has_int h2
    obtain ⟨c, rfl, w3⟩ := has_int h3
    exact ⟨(a, b, c), rfl, inI_of w1, inI_of w2, inI_of w3⟩
theorem map_of2 {α : Type} {f : α → AV} {p : α → Prop} : ∀ {xs : List AV}, (∀ x ∈ xs, ∃ t, x = f t ∧ p t) → ∃ l : List α, xs = l.map f ∧ ∀ t ∈ l, p t
  | [], _ => ⟨[], rfl, by simp⟩
  | x :: xs, h => by
    obtain ⟨t, rfl, ht⟩ := h x (by simp)
    obtain ⟨l, rfl, hl⟩ := map_of2 (f := f) (p := p) (xs := xs) (fun y hy => h y (by simp [hy]))
    exact ⟨t :: l, rfl, by
      intro y hy
      rcases List.mem_cons.1 hy with rfl | hy
      · exact ht
      · exact hl y hy⟩
theorem arg_t3s {a : AV} (h : Has (.sl 3 (.arr 3 (.int .i64))) a.cells) (ha : isA a = false) : ∃ l : List T3, a = .sl 3 (l.map tav) ∧ (∀ t ∈ l, T3ok t) ∧ l.length ≤ 9223372036854775807 := by
  rw [isA_cells ha] at h
  generalize hc : [a] = cs at h
  cases h with
  | sl g1 g2 g3 =>
    simp only [List.cons.injEq, and_true] at hc
    subst hc
    obtain ⟨l, rfl, hl⟩ := map_of2 (fun x hx => has_t3 (g1 x hx) (g2 x hx))
    exact ⟨l, rfl, hl, by rw [List.length_map] at g3; simp [maxLen] at g3; omega⟩
end Go.Proofs.Ytnekeokgognegaa
