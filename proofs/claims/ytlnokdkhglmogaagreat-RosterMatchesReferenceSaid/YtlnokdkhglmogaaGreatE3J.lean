/-
  The engine, part J: seeing a slot otherwise inside a region.
  Conditions: none beyond the premises of each rule.
-/
import Derived.Test.YtlnokdkhglmogaaGreatE3H
namespace Go.E2
open Go.RowKit
section
variable {P : Program} {c : Ctx} {n : Cfg} {ops : Array Oper} {Q : Exit → Act → World → Prop} {F : Fr} {L : List Ent}
theorem Lx.see {l : List Oper} (s : Nat) {a b : AV} (h : look F s = some a) (hs : Sb L a b) (k : Lx P c n ops Q l ((s, b) :: F) L) : Lx P c n ops Q l F L :=
  ⟨fun H w ac hst hF => k.out H w ac hst ⟨hF.ds, hF.size, fun t y ht hn => by
    by_cases e : s = t
    · subst e
      rw [look_cons_self] at ht
      cases ht
      obtain ⟨v, h1, h2⟩ := hF.rel s a h hn
      exact ⟨v, h1, hs.rel hst h2⟩
    · rw [look_cons_ne _ _ e] at ht; exact hF.rel t y ht hn⟩⟩
end
end Go.E2
