/-
  DERIVED: THE SHELF's CONTRACTS AT THIS DUMP, IN PLAIN WORDS (tools/lay-plain.mjs out of 'YtjlkdadafddodaaGreatDoorSh.lean', which tools/lay-shelf.mjs wrote): THE SAME DECLARATIONS UNDER THE SAME NAMES: 'import', 'namespace', 'open', 'def', 'theorem' AND NOTHING ELSE: no command of the shelf's: FOR A HAND-IN. Each laying: the table of numbers ('.._ren') and one theorem, a field a fact of the dump's own or the kernel's comparison; each contract: ONE APPLICATION.
-/
import Derived.Shelf.Sort.Plain
import Derived.Ground.NamesProg
import Derived.Test.YtjlkdadafddodaaGreatDoorProg
namespace Go.Proofs
open Go.Shelf
def Tryz.lays190_ren : Go.Shelf.Ren := ⟨fun | 190 => 61 | 125 => 81 | 258 => 80 | 128 => 98 | 129 => 99 | 302 => 89 | 303 => 90 | 304 => 91 | 305 => 92 | 306 => 93 | 307 => 94 | 308 => 95 | 309 => 96 | 310 => 97 | 333 => 106 | 329 => 107 | 330 => 108 | 334 => 109 | 335 => 110 | 336 => 111 | 344 => 116 | n => n, fun | 31 => 33 | 9 => 9 | 3 => 3 | 46 => 126 | 0 => 0 | 51 => 140 | 53 => 111 | 4 => 4 | 183 => 133 | 182 => 132 | 131 => 52 | 5 => 5 | 218 => 148 | 222 => 152 | 228 => 158 | 229 => 159 | n => n, fun | n => n⟩
theorem Tryz.lays190 : Go.Proofs.Lays.n190 Tryz.prog Tryz.lays190_ren := {
  mixed := by kernel_rfl
  f125 := Tryz.func81.trans (congrArg some (by kernel_rfl))
  f128 := Tryz.func98.trans (congrArg some (by kernel_rfl))
  f129 := Tryz.func99.trans (congrArg some (by kernel_rfl))
  f190 := Tryz.func61.trans (congrArg some (by kernel_rfl))
  f258 := Tryz.func80.trans (congrArg some (by kernel_rfl))
  f302 := Tryz.func89.trans (congrArg some (by kernel_rfl))
  f303 := Tryz.func90.trans (congrArg some (by kernel_rfl))
  f304 := Tryz.func91.trans (congrArg some (by kernel_rfl))
  f305 := Tryz.func92.trans (congrArg some (by kernel_rfl))
  f306 := Tryz.func93.trans (congrArg some (by kernel_rfl))
  f307 := Tryz.func94.trans (congrArg some (by kernel_rfl))
  f308 := Tryz.func95.trans (congrArg some (by kernel_rfl))
  f309 := Tryz.func96.trans (congrArg some (by kernel_rfl))
  f310 := Tryz.func97.trans (congrArg some (by kernel_rfl))
  f329 := Tryz.func107.trans (congrArg some (by kernel_rfl))
  f330 := Tryz.func108.trans (congrArg some (by kernel_rfl))
  f333 := Tryz.func106.trans (congrArg some (by kernel_rfl))
  f334 := Tryz.func109.trans (congrArg some (by kernel_rfl))
  f335 := Tryz.func110.trans (congrArg some (by kernel_rfl))
  f336 := Tryz.func111.trans (congrArg some (by kernel_rfl))
  f344 := Tryz.func116.trans (congrArg some (by kernel_rfl))
  t0 := Tryz.underlying0
  a0 := Tryz.isAgg0
  z0 := Tryz.sizeOf0
  v0 := Tryz.zeroValue0
  t3 := Tryz.underlying3
  a3 := Tryz.isAgg3
  z3 := Tryz.sizeOf3
  v3 := Tryz.zeroValue3
  t4 := Tryz.underlying4
  a4 := Tryz.isAgg4
  z4 := Tryz.sizeOf4
  v4 := Tryz.zeroValue4
  t5 := Tryz.underlying5
  a5 := Tryz.isAgg5
  z5 := Tryz.sizeOf5
  v5 := Tryz.zeroValue5
  t9 := Tryz.underlying9
  a9 := Tryz.isAgg9
  z9 := Tryz.sizeOf9
  v9 := Tryz.zeroValue9
  t31 := Tryz.underlying33
  a31 := Tryz.isAgg33
  z31 := Tryz.sizeOf33
  v31 := Tryz.zeroValue33
  t46 := Tryz.underlying126
  a46 := Tryz.isAgg126
  z46 := Tryz.sizeOf126
  v46 := Tryz.zeroValue126
  t51 := Tryz.underlying140
  a51 := Tryz.isAgg140
  z51 := Tryz.sizeOf140
  v51 := Tryz.zeroValue140
  t53 := Tryz.underlying111
  a53 := Tryz.isAgg111
  z53 := Tryz.sizeOf111
  v53 := Tryz.zeroValue111
  t131 := Tryz.underlying52
  a131 := Tryz.isAgg52
  z131 := Tryz.sizeOf52
  v131 := Tryz.zeroValue52
  t182 := Tryz.underlying132
  a182 := Tryz.isAgg132
  z182 := Tryz.sizeOf132
  v182 := Tryz.zeroValue132
  t183 := Tryz.underlying133
  a183 := Tryz.isAgg133
  z183 := Tryz.sizeOf133
  v183 := Tryz.zeroValue133
  t218 := Tryz.underlying148
  a218 := Tryz.isAgg148
  z218 := Tryz.sizeOf148
  v218 := Tryz.zeroValue148
  t222 := Tryz.underlying152
  a222 := Tryz.isAgg152
  z222 := Tryz.sizeOf152
  v222 := Tryz.zeroValue152
  t228 := Tryz.underlying158
  a228 := Tryz.isAgg158
  z228 := Tryz.sizeOf158
  v228 := Tryz.zeroValue158
  t229 := Tryz.underlying159
  a229 := Tryz.isAgg159
  z229 := Tryz.sizeOf159
  v229 := Tryz.zeroValue159 }
end Go.Proofs
