/-
  DERIVED: THE SHELF's CONTRACTS AT THIS DUMP, IN PLAIN WORDS (tools/lay-plain.mjs out of 'YtnekeokgognegaaShelf2.lean', which tools/lay-shelf.mjs wrote): THE SAME DECLARATIONS UNDER THE SAME NAMES: 'import', 'namespace', 'open', 'def', 'theorem' AND NOTHING ELSE: no command of the shelf's: FOR A HAND-IN. Each laying: the table of numbers ('.._ren') and one theorem, a field a fact of the dump's own or the kernel's comparison; each contract: ONE APPLICATION.
-/
import Derived.Shelf.Sort.Plain
import Derived.Shelf.Slices.CompactI
import Derived.Ground.Names2Prog
import Derived.Ground.NamesProg
import Derived.Test.YtnekeokgognegaaProg
namespace Go.Proofs
open Go.Shelf
def Try.sortI_ren : Go.Shelf.Ren := ⟨fun | 189 => 55 | 125 => 60 | 257 => 59 | 128 => 73 | 129 => 74 | 294 => 64 | 295 => 65 | 296 => 66 | 297 => 67 | 298 => 68 | 299 => 69 | 216 => 70 | 300 => 71 | 301 => 72 | 328 => 78 | 329 => 79 | 330 => 80 | 331 => 81 | 332 => 82 | 215 => 83 | 343 => 85 | n => n, fun | 28 => 41 | 3 => 3 | 46 => 78 | 0 => 0 | 51 => 97 | 53 => 99 | 4 => 4 | 183 => 90 | 182 => 89 | 131 => 94 | 5 => 5 | 9 => 9 | 218 => 102 | 222 => 106 | 228 => 109 | 229 => 61 | n => n, fun | n => n⟩
theorem Try.sortI : Go.Proofs.Lays.n189 Try.prog Try.sortI_ren := {
  mixed := by kernel_rfl
  f125 := Try.func60.trans (congrArg some (by kernel_rfl))
  f128 := Try.func73.trans (congrArg some (by kernel_rfl))
  f129 := Try.func74.trans (congrArg some (by kernel_rfl))
  f189 := Try.func55.trans (congrArg some (by kernel_rfl))
  f215 := Try.func83.trans (congrArg some (by kernel_rfl))
  f216 := Try.func70.trans (congrArg some (by kernel_rfl))
  f257 := Try.func59.trans (congrArg some (by kernel_rfl))
  f294 := Try.func64.trans (congrArg some (by kernel_rfl))
  f295 := Try.func65.trans (congrArg some (by kernel_rfl))
  f296 := Try.func66.trans (congrArg some (by kernel_rfl))
  f297 := Try.func67.trans (congrArg some (by kernel_rfl))
  f298 := Try.func68.trans (congrArg some (by kernel_rfl))
  f299 := Try.func69.trans (congrArg some (by kernel_rfl))
  f300 := Try.func71.trans (congrArg some (by kernel_rfl))
  f301 := Try.func72.trans (congrArg some (by kernel_rfl))
  f328 := Try.func78.trans (congrArg some (by kernel_rfl))
  f329 := Try.func79.trans (congrArg some (by kernel_rfl))
  f330 := Try.func80.trans (congrArg some (by kernel_rfl))
  f331 := Try.func81.trans (congrArg some (by kernel_rfl))
  f332 := Try.func82.trans (congrArg some (by kernel_rfl))
  f343 := Try.func85.trans (congrArg some (by kernel_rfl))
  t0 := Try.underlying0
  a0 := Try.isAgg0
  z0 := Try.sizeOf0
  v0 := Try.zeroValue0
  t3 := Try.underlying3
  a3 := Try.isAgg3
  z3 := Try.sizeOf3
  v3 := Try.zeroValue3
  t4 := Try.underlying4
  a4 := Try.isAgg4
  z4 := Try.sizeOf4
  v4 := Try.zeroValue4
  t5 := Try.underlying5
  a5 := Try.isAgg5
  z5 := Try.sizeOf5
  v5 := Try.zeroValue5
  t9 := Try.underlying9
  a9 := Try.isAgg9
  z9 := Try.sizeOf9
  v9 := Try.zeroValue9
  t28 := Try.underlying41
  a28 := Try.isAgg41
  z28 := Try.sizeOf41
  v28 := Try.zeroValue41
  t46 := Try.underlying78
  a46 := Try.isAgg78
  z46 := Try.sizeOf78
  v46 := Try.zeroValue78
  t51 := Try.underlying97
  a51 := Try.isAgg97
  z51 := Try.sizeOf97
  v51 := Try.zeroValue97
  t53 := Try.underlying99
  a53 := Try.isAgg99
  z53 := Try.sizeOf99
  v53 := Try.zeroValue99
  t131 := Try.underlying94
  a131 := Try.isAgg94
  z131 := Try.sizeOf94
  v131 := Try.zeroValue94
  t182 := Try.underlying89
  a182 := Try.isAgg89
  z182 := Try.sizeOf89
  v182 := Try.zeroValue89
  t183 := Try.underlying90
  a183 := Try.isAgg90
  z183 := Try.sizeOf90
  v183 := Try.zeroValue90
  t218 := Try.underlying102
  a218 := Try.isAgg102
  z218 := Try.sizeOf102
  v218 := Try.zeroValue102
  t222 := Try.underlying106
  a222 := Try.isAgg106
  z222 := Try.sizeOf106
  v222 := Try.zeroValue106
  t228 := Try.underlying109
  a228 := Try.isAgg109
  z228 := Try.sizeOf109
  v228 := Try.zeroValue109
  t229 := Try.underlying61
  a229 := Try.isAgg61
  z229 := Try.sizeOf61
  v229 := Try.zeroValue61 }
def Try.compactI_ren : Go.Shelf.Ren := ⟨fun | 20 => 56 | n => n, fun | 22 => 41 | 3 => 3 | 4 => 4 | 0 => 0 | n => n, fun | n => n⟩
theorem Try.compactI : Go.Proofs.Lays2.n20 Try.prog Try.compactI_ren := {
  mixed := by kernel_rfl
  f20 := Try.func56.trans (congrArg some (by kernel_rfl))
  t0 := Try.underlying0
  a0 := Try.isAgg0
  z0 := Try.sizeOf0
  v0 := Try.zeroValue0
  t3 := Try.underlying3
  a3 := Try.isAgg3
  z3 := Try.sizeOf3
  v3 := Try.zeroValue3
  t4 := Try.underlying4
  a4 := Try.isAgg4
  z4 := Try.sizeOf4
  v4 := Try.zeroValue4
  t22 := Try.underlying41
  a22 := Try.isAgg41
  z22 := Try.sizeOf41
  v22 := Try.zeroValue41
  i3 := by kernel_rfl }
end Go.Proofs
