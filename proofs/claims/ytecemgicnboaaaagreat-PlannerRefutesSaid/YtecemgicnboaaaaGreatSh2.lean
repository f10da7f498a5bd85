/-
  DERIVED: THE SHELF's CONTRACTS AT THIS DUMP, IN PLAIN WORDS (tools/lay-plain.mjs out of 'YtecemgicnboaaaaGreatShelf2.lean', which tools/lay-shelf.mjs wrote): THE SAME DECLARATIONS UNDER THE SAME NAMES: 'import', 'namespace', 'open', 'def', 'theorem' AND NOTHING ELSE: no command of the shelf's: FOR A HAND-IN. Each laying: the table of numbers ('.._ren') and one theorem, a field a fact of the dump's own or the kernel's comparison; each contract: ONE APPLICATION.
-/
import Derived.Shelf.Sort.Plain
import Derived.Ground.NamesProg
import Derived.Test.YtecemgicnboaaaaGreatProg
namespace Go.Proofs
open Go.Shelf
def Tryz.sortI_ren : Go.Shelf.Ren := ⟨fun | 189 => 128 | 125 => 77 | 257 => 137 | 128 => 105 | 129 => 106 | 294 => 142 | 295 => 143 | 296 => 144 | 297 => 145 | 298 => 146 | 299 => 147 | 216 => 148 | 300 => 149 | 301 => 150 | 328 => 153 | 329 => 121 | 330 => 122 | 331 => 154 | 332 => 155 | 215 => 78 | 343 => 164 | n => n, fun | 28 => 38 | 3 => 3 | 46 => 136 | 0 => 0 | 51 => 159 | 53 => 161 | 4 => 4 | 183 => 152 | 182 => 151 | 131 => 156 | 5 => 5 | 9 => 9 | 218 => 182 | 222 => 186 | 228 => 192 | 229 => 138 | n => n, fun | n => n⟩
theorem Tryz.sortI : Go.Proofs.Lays.n189 Tryz.prog Tryz.sortI_ren := {
  mixed := by kernel_rfl
  f125 := Tryz.func77.trans (congrArg some (by kernel_rfl))
  f128 := Tryz.func105.trans (congrArg some (by kernel_rfl))
  f129 := Tryz.func106.trans (congrArg some (by kernel_rfl))
  f189 := Tryz.func128.trans (congrArg some (by kernel_rfl))
  f215 := Tryz.func78.trans (congrArg some (by kernel_rfl))
  f216 := Tryz.func148.trans (congrArg some (by kernel_rfl))
  f257 := Tryz.func137.trans (congrArg some (by kernel_rfl))
  f294 := Tryz.func142.trans (congrArg some (by kernel_rfl))
  f295 := Tryz.func143.trans (congrArg some (by kernel_rfl))
  f296 := Tryz.func144.trans (congrArg some (by kernel_rfl))
  f297 := Tryz.func145.trans (congrArg some (by kernel_rfl))
  f298 := Tryz.func146.trans (congrArg some (by kernel_rfl))
  f299 := Tryz.func147.trans (congrArg some (by kernel_rfl))
  f300 := Tryz.func149.trans (congrArg some (by kernel_rfl))
  f301 := Tryz.func150.trans (congrArg some (by kernel_rfl))
  f328 := Tryz.func153.trans (congrArg some (by kernel_rfl))
  f329 := Tryz.func121.trans (congrArg some (by kernel_rfl))
  f330 := Tryz.func122.trans (congrArg some (by kernel_rfl))
  f331 := Tryz.func154.trans (congrArg some (by kernel_rfl))
  f332 := Tryz.func155.trans (congrArg some (by kernel_rfl))
  f343 := Tryz.func164.trans (congrArg some (by kernel_rfl))
  t0 := Tryz.underlying0
  a0 := Tryz.isAgg0
  z0 := Tryz.sizeOf0
  v0 := Tryz.zeroValue0
  t3 := Tryz.underlying3
  a3 := Tryz.isAgg3
  z3 := Tryz.sizeOf3
  v3 := Tryz.zeroValue3
  t4 := Tryz.underlying4
  a4 := Tryz.isAgg4
  z4 := Tryz.sizeOf4
  v4 := Tryz.zeroValue4
  t5 := Tryz.underlying5
  a5 := Tryz.isAgg5
  z5 := Tryz.sizeOf5
  v5 := Tryz.zeroValue5
  t9 := Tryz.underlying9
  a9 := Tryz.isAgg9
  z9 := Tryz.sizeOf9
  v9 := Tryz.zeroValue9
  t28 := Tryz.underlying38
  a28 := Tryz.isAgg38
  z28 := Tryz.sizeOf38
  v28 := Tryz.zeroValue38
  t46 := Tryz.underlying136
  a46 := Tryz.isAgg136
  z46 := Tryz.sizeOf136
  v46 := Tryz.zeroValue136
  t51 := Tryz.underlying159
  a51 := Tryz.isAgg159
  z51 := Tryz.sizeOf159
  v51 := Tryz.zeroValue159
  t53 := Tryz.underlying161
  a53 := Tryz.isAgg161
  z53 := Tryz.sizeOf161
  v53 := Tryz.zeroValue161
  t131 := Tryz.underlying156
  a131 := Tryz.isAgg156
  z131 := Tryz.sizeOf156
  v131 := Tryz.zeroValue156
  t182 := Tryz.underlying151
  a182 := Tryz.isAgg151
  z182 := Tryz.sizeOf151
  v182 := Tryz.zeroValue151
  t183 := Tryz.underlying152
  a183 := Tryz.isAgg152
  z183 := Tryz.sizeOf152
  v183 := Tryz.zeroValue152
  t218 := Tryz.underlying182
  a218 := Tryz.isAgg182
  z218 := Tryz.sizeOf182
  v218 := Tryz.zeroValue182
  t222 := Tryz.underlying186
  a222 := Tryz.isAgg186
  z222 := Tryz.sizeOf186
  v222 := Tryz.zeroValue186
  t228 := Tryz.underlying192
  a228 := Tryz.isAgg192
  z228 := Tryz.sizeOf192
  v228 := Tryz.zeroValue192
  t229 := Tryz.underlying138
  a229 := Tryz.isAgg138
  z229 := Tryz.sizeOf138
  v229 := Tryz.zeroValue138 }
end Go.Proofs
