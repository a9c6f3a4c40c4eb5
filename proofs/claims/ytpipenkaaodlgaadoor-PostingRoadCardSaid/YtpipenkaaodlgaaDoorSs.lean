/-
  DERIVED: THE SHELF's CONTRACTS AT THIS DUMP, IN PLAIN WORDS (tools/lay-plain.mjs out of 'YtpipenkaaodlgaaDoorSs.lean', which tools/lay-shelf.mjs wrote): THE SAME DECLARATIONS UNDER THE SAME NAMES: 'import', 'namespace', 'open', 'def', 'theorem' AND NOTHING ELSE: no command of the shelf's: FOR A HAND-IN. Each laying: the table of numbers ('.._ren') and one theorem, a field a fact of the dump's own or the kernel's comparison; each contract: ONE APPLICATION.
-/
import Derived.Shelf.Sort.Plain
import Derived.Ground.NamesProg
import Derived.Test.YtpipenkaaodlgaaDoorProg
namespace Go.Proofs
open Go.Shelf
def Tryd.lays190_ren : Go.Shelf.Ren := ⟨fun | 190 => 37 | 125 => 57 | 258 => 56 | 128 => 74 | 129 => 75 | 302 => 65 | 303 => 66 | 304 => 67 | 305 => 68 | 306 => 69 | 307 => 70 | 308 => 71 | 309 => 72 | 310 => 73 | 333 => 81 | 329 => 82 | 330 => 83 | 334 => 84 | 335 => 85 | 336 => 86 | 344 => 90 | n => n, fun | 31 => 27 | 9 => 9 | 3 => 3 | 46 => 92 | 0 => 0 | 51 => 108 | 53 => 72 | 4 => 4 | 183 => 100 | 182 => 99 | 131 => 105 | 5 => 5 | 218 => 112 | 222 => 116 | 228 => 119 | 229 => 120 | n => n, fun | n => n⟩
theorem Tryd.lays190 : Go.Proofs.Lays.n190 Tryd.prog Tryd.lays190_ren := {
  mixed := by kernel_rfl
  f125 := Tryd.func57.trans (congrArg some (by kernel_rfl))
  f128 := Tryd.func74.trans (congrArg some (by kernel_rfl))
  f129 := Tryd.func75.trans (congrArg some (by kernel_rfl))
  f190 := Tryd.func37.trans (congrArg some (by kernel_rfl))
  f258 := Tryd.func56.trans (congrArg some (by kernel_rfl))
  f302 := Tryd.func65.trans (congrArg some (by kernel_rfl))
  f303 := Tryd.func66.trans (congrArg some (by kernel_rfl))
  f304 := Tryd.func67.trans (congrArg some (by kernel_rfl))
  f305 := Tryd.func68.trans (congrArg some (by kernel_rfl))
  f306 := Tryd.func69.trans (congrArg some (by kernel_rfl))
  f307 := Tryd.func70.trans (congrArg some (by kernel_rfl))
  f308 := Tryd.func71.trans (congrArg some (by kernel_rfl))
  f309 := Tryd.func72.trans (congrArg some (by kernel_rfl))
  f310 := Tryd.func73.trans (congrArg some (by kernel_rfl))
  f329 := Tryd.func82.trans (congrArg some (by kernel_rfl))
  f330 := Tryd.func83.trans (congrArg some (by kernel_rfl))
  f333 := Tryd.func81.trans (congrArg some (by kernel_rfl))
  f334 := Tryd.func84.trans (congrArg some (by kernel_rfl))
  f335 := Tryd.func85.trans (congrArg some (by kernel_rfl))
  f336 := Tryd.func86.trans (congrArg some (by kernel_rfl))
  f344 := Tryd.func90.trans (congrArg some (by kernel_rfl))
  t0 := Tryd.underlying0
  a0 := Tryd.isAgg0
  z0 := Tryd.sizeOf0
  v0 := Tryd.zeroValue0
  t3 := Tryd.underlying3
  a3 := Tryd.isAgg3
  z3 := Tryd.sizeOf3
  v3 := Tryd.zeroValue3
  t4 := Tryd.underlying4
  a4 := Tryd.isAgg4
  z4 := Tryd.sizeOf4
  v4 := Tryd.zeroValue4
  t5 := Tryd.underlying5
  a5 := Tryd.isAgg5
  z5 := Tryd.sizeOf5
  v5 := Tryd.zeroValue5
  t9 := Tryd.underlying9
  a9 := Tryd.isAgg9
  z9 := Tryd.sizeOf9
  v9 := Tryd.zeroValue9
  t31 := Tryd.underlying27
  a31 := Tryd.isAgg27
  z31 := Tryd.sizeOf27
  v31 := Tryd.zeroValue27
  t46 := Tryd.underlying92
  a46 := Tryd.isAgg92
  z46 := Tryd.sizeOf92
  v46 := Tryd.zeroValue92
  t51 := Tryd.underlying108
  a51 := Tryd.isAgg108
  z51 := Tryd.sizeOf108
  v51 := Tryd.zeroValue108
  t53 := Tryd.underlying72
  a53 := Tryd.isAgg72
  z53 := Tryd.sizeOf72
  v53 := Tryd.zeroValue72
  t131 := Tryd.underlying105
  a131 := Tryd.isAgg105
  z131 := Tryd.sizeOf105
  v131 := Tryd.zeroValue105
  t182 := Tryd.underlying99
  a182 := Tryd.isAgg99
  z182 := Tryd.sizeOf99
  v182 := Tryd.zeroValue99
  t183 := Tryd.underlying100
  a183 := Tryd.isAgg100
  z183 := Tryd.sizeOf100
  v183 := Tryd.zeroValue100
  t218 := Tryd.underlying112
  a218 := Tryd.isAgg112
  z218 := Tryd.sizeOf112
  v218 := Tryd.zeroValue112
  t222 := Tryd.underlying116
  a222 := Tryd.isAgg116
  z222 := Tryd.sizeOf116
  v222 := Tryd.zeroValue116
  t228 := Tryd.underlying119
  a228 := Tryd.isAgg119
  z228 := Tryd.sizeOf119
  v228 := Tryd.zeroValue119
  t229 := Tryd.underlying120
  a229 := Tryd.isAgg120
  z229 := Tryd.sizeOf120
  v229 := Tryd.zeroValue120 }
end Go.Proofs
