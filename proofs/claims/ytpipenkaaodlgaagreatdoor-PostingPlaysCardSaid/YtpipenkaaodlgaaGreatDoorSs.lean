/-
  DERIVED: THE SHELF's CONTRACTS AT THIS DUMP, IN PLAIN WORDS (tools/lay-plain.mjs out of 'YtpipenkaaodlgaaGreatDoorSs.lean', which tools/lay-shelf.mjs wrote): THE SAME DECLARATIONS UNDER THE SAME NAMES: 'import', 'namespace', 'open', 'def', 'theorem' AND NOTHING ELSE: no command of the shelf's: FOR A HAND-IN. Each laying: the table of numbers ('.._ren') and one theorem, a field a fact of the dump's own or the kernel's comparison; each contract: ONE APPLICATION.
-/
import Derived.Shelf.Sort.Plain
import Derived.Ground.NamesProg
import Derived.Test.YtpipenkaaodlgaaGreatDoorProg
namespace Go.Proofs
open Go.Shelf
def Tryz.lays190_ren : Go.Shelf.Ren := ⟨fun | 190 => 39 | 125 => 64 | 258 => 63 | 128 => 93 | 129 => 94 | 302 => 84 | 303 => 85 | 304 => 86 | 305 => 87 | 306 => 88 | 307 => 89 | 308 => 90 | 309 => 91 | 310 => 92 | 333 => 105 | 329 => 106 | 330 => 107 | 334 => 108 | 335 => 109 | 336 => 110 | 344 => 115 | n => n, fun | 31 => 23 | 9 => 9 | 3 => 3 | 46 => 115 | 0 => 0 | 51 => 137 | 53 => 104 | 4 => 4 | 183 => 130 | 182 => 129 | 131 => 78 | 5 => 5 | 218 => 144 | 222 => 148 | 228 => 152 | 229 => 80 | n => n, fun | n => n⟩
theorem Tryz.lays190 : Go.Proofs.Lays.n190 Tryz.prog Tryz.lays190_ren := {
  mixed := by kernel_rfl
  f125 := Tryz.func64.trans (congrArg some (by kernel_rfl))
  f128 := Tryz.func93.trans (congrArg some (by kernel_rfl))
  f129 := Tryz.func94.trans (congrArg some (by kernel_rfl))
  f190 := Tryz.func39.trans (congrArg some (by kernel_rfl))
  f258 := Tryz.func63.trans (congrArg some (by kernel_rfl))
  f302 := Tryz.func84.trans (congrArg some (by kernel_rfl))
  f303 := Tryz.func85.trans (congrArg some (by kernel_rfl))
  f304 := Tryz.func86.trans (congrArg some (by kernel_rfl))
  f305 := Tryz.func87.trans (congrArg some (by kernel_rfl))
  f306 := Tryz.func88.trans (congrArg some (by kernel_rfl))
  f307 := Tryz.func89.trans (congrArg some (by kernel_rfl))
  f308 := Tryz.func90.trans (congrArg some (by kernel_rfl))
  f309 := Tryz.func91.trans (congrArg some (by kernel_rfl))
  f310 := Tryz.func92.trans (congrArg some (by kernel_rfl))
  f329 := Tryz.func106.trans (congrArg some (by kernel_rfl))
  f330 := Tryz.func107.trans (congrArg some (by kernel_rfl))
  f333 := Tryz.func105.trans (congrArg some (by kernel_rfl))
  f334 := Tryz.func108.trans (congrArg some (by kernel_rfl))
  f335 := Tryz.func109.trans (congrArg some (by kernel_rfl))
  f336 := Tryz.func110.trans (congrArg some (by kernel_rfl))
  f344 := Tryz.func115.trans (congrArg some (by kernel_rfl))
  t0 := Tryz.underlying0
  a0 := Tryz.isAgg0
  z0 := Tryz.sizeOf0
  v0 := Tryz.zeroValue0
  t3 := Tryz.underlying3
  a3 := Tryz.isAgg3
  z3 := Tryz.sizeOf3
  v3 := Tryz.zeroValue3
  t4 := Tryz.underlying4
  a4 := Tryz.isAgg4
  z4 := Tryz.sizeOf4
  v4 := Tryz.zeroValue4
  t5 := Tryz.underlying5
  a5 := Tryz.isAgg5
  z5 := Tryz.sizeOf5
  v5 := Tryz.zeroValue5
  t9 := Tryz.underlying9
  a9 := Tryz.isAgg9
  z9 := Tryz.sizeOf9
  v9 := Tryz.zeroValue9
  t31 := Tryz.underlying23
  a31 := Tryz.isAgg23
  z31 := Tryz.sizeOf23
  v31 := Tryz.zeroValue23
  t46 := Tryz.underlying115
  a46 := Tryz.isAgg115
  z46 := Tryz.sizeOf115
  v46 := Tryz.zeroValue115
  t51 := Tryz.underlying137
  a51 := Tryz.isAgg137
  z51 := Tryz.sizeOf137
  v51 := Tryz.zeroValue137
  t53 := Tryz.underlying104
  a53 := Tryz.isAgg104
  z53 := Tryz.sizeOf104
  v53 := Tryz.zeroValue104
  t131 := Tryz.underlying78
  a131 := Tryz.isAgg78
  z131 := Tryz.sizeOf78
  v131 := Tryz.zeroValue78
  t182 := Tryz.underlying129
  a182 := Tryz.isAgg129
  z182 := Tryz.sizeOf129
  v182 := Tryz.zeroValue129
  t183 := Tryz.underlying130
  a183 := Tryz.isAgg130
  z183 := Tryz.sizeOf130
  v183 := Tryz.zeroValue130
  t218 := Tryz.underlying144
  a218 := Tryz.isAgg144
  z218 := Tryz.sizeOf144
  v218 := Tryz.zeroValue144
  t222 := Tryz.underlying148
  a222 := Tryz.isAgg148
  z222 := Tryz.sizeOf148
  v222 := Tryz.zeroValue148
  t228 := Tryz.underlying152
  a228 := Tryz.isAgg152
  z228 := Tryz.sizeOf152
  v228 := Tryz.zeroValue152
  t229 := Tryz.underlying80
  a229 := Tryz.isAgg80
  z229 := Tryz.sizeOf80
  v229 := Tryz.zeroValue80 }
end Go.Proofs
