/-
  DERIVED: THE SHELF's CONTRACTS AT THIS DUMP, IN PLAIN WORDS (tools/lay-plain.mjs out of 'YtjkjcfpphhionaaShelf.lean', which tools/lay-shelf.mjs wrote): THE SAME DECLARATIONS UNDER THE SAME NAMES: 'import', 'namespace', 'open', 'def', 'theorem' AND NOTHING ELSE: no command of the shelf's: FOR A HAND-IN. Each laying: the table of numbers ('.._ren') and one theorem, a field a fact of the dump's own or the kernel's comparison; each contract: ONE APPLICATION.
-/
import Derived.Shelf.Sort.Plain
import Derived.Shelf.Slices.In.SortNone
import Derived.Ground.NamesProg
import Derived.Test.YtjkjcfpphhionaaProg
namespace Go.Proofs
open Go.Shelf
def Try.lays189_ren : Go.Shelf.Ren := ⟨fun | 189 => 67 | 125 => 70 | 257 => 75 | 128 => 84 | 129 => 85 | 294 => 89 | 295 => 90 | 296 => 91 | 297 => 92 | 298 => 93 | 299 => 94 | 216 => 95 | 300 => 96 | 301 => 97 | 328 => 105 | 329 => 99 | 330 => 100 | 331 => 106 | 332 => 107 | 215 => 71 | 343 => 111 | n => n, fun | 28 => 35 | 3 => 3 | 46 => 103 | 0 => 0 | 51 => 116 | 53 => 23 | 4 => 4 | 183 => 110 | 182 => 109 | 131 => 42 | 5 => 5 | 9 => 9 | 218 => 126 | 222 => 130 | 228 => 134 | 229 => 66 | n => n, fun | n => n⟩
theorem Try.lays189 : Go.Proofs.Lays.n189 Try.prog Try.lays189_ren := {
  mixed := by kernel_rfl
  f125 := Try.func70.trans (congrArg some (by kernel_rfl))
  f128 := Try.func84.trans (congrArg some (by kernel_rfl))
  f129 := Try.func85.trans (congrArg some (by kernel_rfl))
  f189 := Try.func67.trans (congrArg some (by kernel_rfl))
  f215 := Try.func71.trans (congrArg some (by kernel_rfl))
  f216 := Try.func95.trans (congrArg some (by kernel_rfl))
  f257 := Try.func75.trans (congrArg some (by kernel_rfl))
  f294 := Try.func89.trans (congrArg some (by kernel_rfl))
  f295 := Try.func90.trans (congrArg some (by kernel_rfl))
  f296 := Try.func91.trans (congrArg some (by kernel_rfl))
  f297 := Try.func92.trans (congrArg some (by kernel_rfl))
  f298 := Try.func93.trans (congrArg some (by kernel_rfl))
  f299 := Try.func94.trans (congrArg some (by kernel_rfl))
  f300 := Try.func96.trans (congrArg some (by kernel_rfl))
  f301 := Try.func97.trans (congrArg some (by kernel_rfl))
  f328 := Try.func105.trans (congrArg some (by kernel_rfl))
  f329 := Try.func99.trans (congrArg some (by kernel_rfl))
  f330 := Try.func100.trans (congrArg some (by kernel_rfl))
  f331 := Try.func106.trans (congrArg some (by kernel_rfl))
  f332 := Try.func107.trans (congrArg some (by kernel_rfl))
  f343 := Try.func111.trans (congrArg some (by kernel_rfl))
  t0 := Try.underlying0
  a0 := Try.isAgg0
  z0 := Try.sizeOf0
  v0 := Try.zeroValue0
  t3 := Try.underlying3
  a3 := Try.isAgg3
  z3 := Try.sizeOf3
  v3 := Try.zeroValue3
  t4 := Try.underlying4
  a4 := Try.isAgg4
  z4 := Try.sizeOf4
  v4 := Try.zeroValue4
  t5 := Try.underlying5
  a5 := Try.isAgg5
  z5 := Try.sizeOf5
  v5 := Try.zeroValue5
  t9 := Try.underlying9
  a9 := Try.isAgg9
  z9 := Try.sizeOf9
  v9 := Try.zeroValue9
  t28 := Try.underlying35
  a28 := Try.isAgg35
  z28 := Try.sizeOf35
  v28 := Try.zeroValue35
  t46 := Try.underlying103
  a46 := Try.isAgg103
  z46 := Try.sizeOf103
  v46 := Try.zeroValue103
  t51 := Try.underlying116
  a51 := Try.isAgg116
  z51 := Try.sizeOf116
  v51 := Try.zeroValue116
  t53 := Try.underlying23
  a53 := Try.isAgg23
  z53 := Try.sizeOf23
  v53 := Try.zeroValue23
  t131 := Try.underlying42
  a131 := Try.isAgg42
  z131 := Try.sizeOf42
  v131 := Try.zeroValue42
  t182 := Try.underlying109
  a182 := Try.isAgg109
  z182 := Try.sizeOf109
  v182 := Try.zeroValue109
  t183 := Try.underlying110
  a183 := Try.isAgg110
  z183 := Try.sizeOf110
  v183 := Try.zeroValue110
  t218 := Try.underlying126
  a218 := Try.isAgg126
  z218 := Try.sizeOf126
  v218 := Try.zeroValue126
  t222 := Try.underlying130
  a222 := Try.isAgg130
  z222 := Try.sizeOf130
  v222 := Try.zeroValue130
  t228 := Try.underlying134
  a228 := Try.isAgg134
  z228 := Try.sizeOf134
  v228 := Try.zeroValue134
  t229 := Try.underlying66
  a229 := Try.isAgg66
  z229 := Try.sizeOf66
  v229 := Try.zeroValue66 }
end Go.Proofs
