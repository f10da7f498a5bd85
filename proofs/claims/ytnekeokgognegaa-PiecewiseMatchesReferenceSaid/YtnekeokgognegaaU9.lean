/-
  Walks: arguments, the reference's Has.
  Conditions: those of each theorem.
-/
import Derived.Test.YtnekeokgognegaaU8
namespace Go.Proofs.Ytnekeokgognegaa
open Go.E2 Go.Wage
structure ArQ where
  k : Nat
  v : Value
theorem r4Proper_ok (s : Sp) : FnA Try.prog 45 [spav s] (B (prp s)) := by
  refine fn_run (T := tab) Try.func45 rfl Try.ntmps45 rfl Try.results45 (fun _ => ?_)
  repeat' ((conv => whnf) <;> (first | refine zM ?_ | refine zW ?_ | intro _ | exact zF | refine Fin.pure ?_ | refine Br.tt ?_ | refine Br.ff ?_ | (refine Br.mk (fun h => ?_) (fun h => ?_) <;> (try simp only [sh] at h) <;> try first | (exfalso; omega) | exact absurd trivial h | (simp at h; done)) | refine zA ?_ | refine zN ?_ | refine zO ?_ | refine zP ?_ | refine zB ?_ | refine lB ?_ | refine lBA ?_ | refine zK ?_ | refine s1 ?_ | refine sA ?_ | refine zC ?_ | fail))
end Go.Proofs.Ytnekeokgognegaa
