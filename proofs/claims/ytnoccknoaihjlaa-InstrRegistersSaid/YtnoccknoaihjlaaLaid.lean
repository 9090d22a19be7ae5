import Derived.Shelf.Sort.Plain
import Derived.Shelf.Slices.In.SortNone
import Derived.Shelf.Slices.CompactI
import Derived.Test.YtnoccknoaihjlaaProg
set_option linter.unusedVariables false
set_option linter.unusedSimpArgs false
set_option linter.unnecessarySimpa false
/-
  DERIVED: THE SHELF's CONTRACTS AT THIS DUMP, IN PLAIN WORDS (tools/lay-plain.mjs out of 'DevYtnoccknoaihjlaaShelf.lean', which tools/lay-shelf.mjs wrote): THE SAME DECLARATIONS UNDER THE SAME NAMES: 'import', 'namespace', 'open', 'def', 'theorem' AND NOTHING ELSE: no command of the shelf's: FOR A HAND-IN. Each laying: the table of numbers ('.._ren') and one theorem, a field a fact of the dump's own or the kernel's comparison; each contract: ONE APPLICATION.
-/
namespace Go.Proofs
open Go.Shelf
def Try.lays189_ren : Go.Shelf.Ren := ⟨fun | 189 => 78 | 125 => 81 | 257 => 80 | 128 => 91 | 129 => 92 | 294 => 82 | 295 => 83 | 296 => 84 | 297 => 85 | 298 => 86 | 299 => 87 | 216 => 88 | 300 => 89 | 301 => 90 | 328 => 93 | 329 => 94 | 330 => 95 | 331 => 96 | 332 => 97 | 215 => 98 | 343 => 99 | n => n, fun | 28 => 79 | 3 => 3 | 46 => 91 | 0 => 0 | 51 => 31 | 53 => 119 | 4 => 4 | 183 => 112 | 182 => 111 | 131 => 68 | 5 => 5 | 9 => 9 | 218 => 120 | 222 => 124 | 228 => 126 | 229 => 62 | n => n, fun | n => n⟩
theorem Try.lays189 : Go.Proofs.Lays.n189 Try.prog Try.lays189_ren := {
  mixed := by kernel_rfl
  f125 := Try.func81.trans (congrArg some (by kernel_rfl))
  f128 := Try.func91.trans (congrArg some (by kernel_rfl))
  f129 := Try.func92.trans (congrArg some (by kernel_rfl))
  f189 := Try.func78.trans (congrArg some (by kernel_rfl))
  f215 := Try.func98.trans (congrArg some (by kernel_rfl))
  f216 := Try.func88.trans (congrArg some (by kernel_rfl))
  f257 := Try.func80.trans (congrArg some (by kernel_rfl))
  f294 := Try.func82.trans (congrArg some (by kernel_rfl))
  f295 := Try.func83.trans (congrArg some (by kernel_rfl))
  f296 := Try.func84.trans (congrArg some (by kernel_rfl))
  f297 := Try.func85.trans (congrArg some (by kernel_rfl))
  f298 := Try.func86.trans (congrArg some (by kernel_rfl))
  f299 := Try.func87.trans (congrArg some (by kernel_rfl))
  f300 := Try.func89.trans (congrArg some (by kernel_rfl))
  f301 := Try.func90.trans (congrArg some (by kernel_rfl))
  f328 := Try.func93.trans (congrArg some (by kernel_rfl))
  f329 := Try.func94.trans (congrArg some (by kernel_rfl))
  f330 := Try.func95.trans (congrArg some (by kernel_rfl))
  f331 := Try.func96.trans (congrArg some (by kernel_rfl))
  f332 := Try.func97.trans (congrArg some (by kernel_rfl))
  f343 := Try.func99.trans (congrArg some (by kernel_rfl))
  t0 := Try.underlying0
  a0 := Try.isAgg0
  z0 := Try.sizeOf0
  v0 := Try.zeroValue0
  t3 := Try.underlying3
  a3 := Try.isAgg3
  z3 := Try.sizeOf3
  v3 := Try.zeroValue3
  t4 := Try.underlying4
  a4 := Try.isAgg4
  z4 := Try.sizeOf4
  v4 := Try.zeroValue4
  t5 := Try.underlying5
  a5 := Try.isAgg5
  z5 := Try.sizeOf5
  v5 := Try.zeroValue5
  t9 := Try.underlying9
  a9 := Try.isAgg9
  z9 := Try.sizeOf9
  v9 := Try.zeroValue9
  t28 := Try.underlying79
  a28 := Try.isAgg79
  z28 := Try.sizeOf79
  v28 := Try.zeroValue79
  t46 := Try.underlying91
  a46 := Try.isAgg91
  z46 := Try.sizeOf91
  v46 := Try.zeroValue91
  t51 := Try.underlying31
  a51 := Try.isAgg31
  z51 := Try.sizeOf31
  v51 := Try.zeroValue31
  t53 := Try.underlying119
  a53 := Try.isAgg119
  z53 := Try.sizeOf119
  v53 := Try.zeroValue119
  t131 := Try.underlying68
  a131 := Try.isAgg68
  z131 := Try.sizeOf68
  v131 := Try.zeroValue68
  t182 := Try.underlying111
  a182 := Try.isAgg111
  z182 := Try.sizeOf111
  v182 := Try.zeroValue111
  t183 := Try.underlying112
  a183 := Try.isAgg112
  z183 := Try.sizeOf112
  v183 := Try.zeroValue112
  t218 := Try.underlying120
  a218 := Try.isAgg120
  z218 := Try.sizeOf120
  v218 := Try.zeroValue120
  t222 := Try.underlying124
  a222 := Try.isAgg124
  z222 := Try.sizeOf124
  v222 := Try.zeroValue124
  t228 := Try.underlying126
  a228 := Try.isAgg126
  z228 := Try.sizeOf126
  v228 := Try.zeroValue126
  t229 := Try.underlying62
  a229 := Try.isAgg62
  z229 := Try.sizeOf62
  v229 := Try.zeroValue62 }
def Try.lays220_ren : Go.Shelf.Ren := ⟨fun | 20 => 79 | n => n, fun | 22 => 79 | 3 => 3 | 4 => 4 | 0 => 0 | n => n, fun | n => n⟩
theorem Try.lays220 : Go.Proofs.Lays2.n20 Try.prog Try.lays220_ren := {
  mixed := by kernel_rfl
  f20 := Try.func79.trans (congrArg some (by kernel_rfl))
  t0 := Try.underlying0
  a0 := Try.isAgg0
  z0 := Try.sizeOf0
  v0 := Try.zeroValue0
  t3 := Try.underlying3
  a3 := Try.isAgg3
  z3 := Try.sizeOf3
  v3 := Try.zeroValue3
  t4 := Try.underlying4
  a4 := Try.isAgg4
  z4 := Try.sizeOf4
  v4 := Try.zeroValue4
  t22 := Try.underlying79
  a22 := Try.isAgg79
  z22 := Try.sizeOf79
  v22 := Try.zeroValue79
  i3 := by kernel_rfl }
end Go.Proofs
