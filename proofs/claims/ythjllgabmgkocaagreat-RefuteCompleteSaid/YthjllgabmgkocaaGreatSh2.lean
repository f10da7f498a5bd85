/-
  DERIVED: THE SHELF's CONTRACTS AT THIS DUMP, IN PLAIN WORDS (tools/lay-plain.mjs out of 'YthjllgabmgkocaaGreatShelf2.lean', which tools/lay-shelf.mjs wrote): THE SAME DECLARATIONS UNDER THE SAME NAMES: 'import', 'namespace', 'open', 'def', 'theorem' AND NOTHING ELSE: no command of the shelf's: FOR A HAND-IN. Each laying: the table of numbers ('.._ren') and one theorem, a field a fact of the dump's own or the kernel's comparison; each contract: ONE APPLICATION.
-/
import Derived.Shelf.Sort.Plain
import Derived.Ground.NamesProg
import Derived.Test.YthjllgabmgkocaaGreatProg
namespace Go.Proofs
open Go.Shelf
def Tryz.sortI_ren : Go.Shelf.Ren := ⟨fun | 189 => 119 | 125 => 82 | 257 => 135 | 128 => 114 | 129 => 115 | 294 => 147 | 295 => 148 | 296 => 149 | 297 => 150 | 298 => 151 | 299 => 152 | 216 => 153 | 300 => 154 | 301 => 155 | 328 => 160 | 329 => 130 | 330 => 131 | 331 => 161 | 332 => 162 | 215 => 83 | 343 => 166 | n => n, fun | 28 => 38 | 3 => 3 | 46 => 144 | 0 => 0 | 51 => 177 | 53 => 179 | 4 => 4 | 183 => 170 | 182 => 169 | 131 => 174 | 5 => 5 | 9 => 9 | 218 => 193 | 222 => 197 | 228 => 211 | 229 => 145 | n => n, fun | n => n⟩
theorem Tryz.sortI : Go.Proofs.Lays.n189 Tryz.prog Tryz.sortI_ren := {
  mixed := by kernel_rfl
  f125 := Tryz.func82.trans (congrArg some (by kernel_rfl))
  f128 := Tryz.func114.trans (congrArg some (by kernel_rfl))
  f129 := Tryz.func115.trans (congrArg some (by kernel_rfl))
  f189 := Tryz.func119.trans (congrArg some (by kernel_rfl))
  f215 := Tryz.func83.trans (congrArg some (by kernel_rfl))
  f216 := Tryz.func153.trans (congrArg some (by kernel_rfl))
  f257 := Tryz.func135.trans (congrArg some (by kernel_rfl))
  f294 := Tryz.func147.trans (congrArg some (by kernel_rfl))
  f295 := Tryz.func148.trans (congrArg some (by kernel_rfl))
  f296 := Tryz.func149.trans (congrArg some (by kernel_rfl))
  f297 := Tryz.func150.trans (congrArg some (by kernel_rfl))
  f298 := Tryz.func151.trans (congrArg some (by kernel_rfl))
  f299 := Tryz.func152.trans (congrArg some (by kernel_rfl))
  f300 := Tryz.func154.trans (congrArg some (by kernel_rfl))
  f301 := Tryz.func155.trans (congrArg some (by kernel_rfl))
  f328 := Tryz.func160.trans (congrArg some (by kernel_rfl))
  f329 := Tryz.func130.trans (congrArg some (by kernel_rfl))
  f330 := Tryz.func131.trans (congrArg some (by kernel_rfl))
  f331 := Tryz.func161.trans (congrArg some (by kernel_rfl))
  f332 := Tryz.func162.trans (congrArg some (by kernel_rfl))
  f343 := Tryz.func166.trans (congrArg some (by kernel_rfl))
  t0 := Tryz.underlying0
  a0 := Tryz.isAgg0
  z0 := Tryz.sizeOf0
  v0 := Tryz.zeroValue0
  t3 := Tryz.underlying3
  a3 := Tryz.isAgg3
  z3 := Tryz.sizeOf3
  v3 := Tryz.zeroValue3
  t4 := Tryz.underlying4
  a4 := Tryz.isAgg4
  z4 := Tryz.sizeOf4
  v4 := Tryz.zeroValue4
  t5 := Tryz.underlying5
  a5 := Tryz.isAgg5
  z5 := Tryz.sizeOf5
  v5 := Tryz.zeroValue5
  t9 := Tryz.underlying9
  a9 := Tryz.isAgg9
  z9 := Tryz.sizeOf9
  v9 := Tryz.zeroValue9
  t28 := Tryz.underlying38
  a28 := Tryz.isAgg38
  z28 := Tryz.sizeOf38
  v28 := Tryz.zeroValue38
  t46 := Tryz.underlying144
  a46 := Tryz.isAgg144
  z46 := Tryz.sizeOf144
  v46 := Tryz.zeroValue144
  t51 := Tryz.underlying177
  a51 := Tryz.isAgg177
  z51 := Tryz.sizeOf177
  v51 := Tryz.zeroValue177
  t53 := Tryz.underlying179
  a53 := Tryz.isAgg179
  z53 := Tryz.sizeOf179
  v53 := Tryz.zeroValue179
  t131 := Tryz.underlying174
  a131 := Tryz.isAgg174
  z131 := Tryz.sizeOf174
  v131 := Tryz.zeroValue174
  t182 := Tryz.underlying169
  a182 := Tryz.isAgg169
  z182 := Tryz.sizeOf169
  v182 := Tryz.zeroValue169
  t183 := Tryz.underlying170
  a183 := Tryz.isAgg170
  z183 := Tryz.sizeOf170
  v183 := Tryz.zeroValue170
  t218 := Tryz.underlying193
  a218 := Tryz.isAgg193
  z218 := Tryz.sizeOf193
  v218 := Tryz.zeroValue193
  t222 := Tryz.underlying197
  a222 := Tryz.isAgg197
  z222 := Tryz.sizeOf197
  v222 := Tryz.zeroValue197
  t228 := Tryz.underlying211
  a228 := Tryz.isAgg211
  z228 := Tryz.sizeOf211
  v228 := Tryz.zeroValue211
  t229 := Tryz.underlying145
  a229 := Tryz.isAgg145
  z229 := Tryz.sizeOf145
  v229 := Tryz.zeroValue145 }
end Go.Proofs
