/-
  DERIVED: THE SHELF's CONTRACTS AT THIS DUMP, IN PLAIN WORDS (tools/lay-plain.mjs out of 'YtnbaldclpeoopaaShelf.lean', which tools/lay-shelf.mjs wrote): THE SAME DECLARATIONS UNDER THE SAME NAMES: 'import', 'namespace', 'open', 'def', 'theorem' AND NOTHING ELSE: no command of the shelf's: FOR A HAND-IN. Each laying: the table of numbers ('.._ren') and one theorem, a field a fact of the dump's own or the kernel's comparison; each contract: ONE APPLICATION.
-/
import Derived.Shelf.Sort.Plain
import Derived.Shelf.Slices.In.SortNone
import Derived.Ground.NamesProg
import Derived.Test.YtnbaldclpeoopaaProg
namespace Go.Proofs
open Go.Shelf
def Try.lays189_ren : Go.Shelf.Ren := ⟨fun | 189 => 38 | 125 => 50 | 257 => 49 | 128 => 67 | 129 => 68 | 294 => 58 | 295 => 59 | 296 => 60 | 297 => 61 | 298 => 62 | 299 => 63 | 216 => 64 | 300 => 65 | 301 => 66 | 328 => 73 | 329 => 74 | 330 => 75 | 331 => 76 | 332 => 77 | 215 => 78 | 343 => 79 | n => n, fun | 28 => 24 | 3 => 3 | 46 => 89 | 0 => 0 | 51 => 104 | 53 => 106 | 4 => 4 | 183 => 97 | 182 => 96 | 131 => 101 | 5 => 5 | 9 => 9 | 218 => 107 | 222 => 111 | 228 => 113 | 229 => 114 | n => n, fun | n => n⟩
theorem Try.lays189 : Go.Proofs.Lays.n189 Try.prog Try.lays189_ren := {
  mixed := by kernel_rfl
  f125 := Try.func50.trans (congrArg some (by kernel_rfl))
  f128 := Try.func67.trans (congrArg some (by kernel_rfl))
  f129 := Try.func68.trans (congrArg some (by kernel_rfl))
  f189 := Try.func38.trans (congrArg some (by kernel_rfl))
  f215 := Try.func78.trans (congrArg some (by kernel_rfl))
  f216 := Try.func64.trans (congrArg some (by kernel_rfl))
  f257 := Try.func49.trans (congrArg some (by kernel_rfl))
  f294 := Try.func58.trans (congrArg some (by kernel_rfl))
  f295 := Try.func59.trans (congrArg some (by kernel_rfl))
  f296 := Try.func60.trans (congrArg some (by kernel_rfl))
  f297 := Try.func61.trans (congrArg some (by kernel_rfl))
  f298 := Try.func62.trans (congrArg some (by kernel_rfl))
  f299 := Try.func63.trans (congrArg some (by kernel_rfl))
  f300 := Try.func65.trans (congrArg some (by kernel_rfl))
  f301 := Try.func66.trans (congrArg some (by kernel_rfl))
  f328 := Try.func73.trans (congrArg some (by kernel_rfl))
  f329 := Try.func74.trans (congrArg some (by kernel_rfl))
  f330 := Try.func75.trans (congrArg some (by kernel_rfl))
  f331 := Try.func76.trans (congrArg some (by kernel_rfl))
  f332 := Try.func77.trans (congrArg some (by kernel_rfl))
  f343 := Try.func79.trans (congrArg some (by kernel_rfl))
  t0 := Try.underlying0
  a0 := Try.isAgg0
  z0 := Try.sizeOf0
  v0 := Try.zeroValue0
  t3 := Try.underlying3
  a3 := Try.isAgg3
  z3 := Try.sizeOf3
  v3 := Try.zeroValue3
  t4 := Try.underlying4
  a4 := Try.isAgg4
  z4 := Try.sizeOf4
  v4 := Try.zeroValue4
  t5 := Try.underlying5
  a5 := Try.isAgg5
  z5 := Try.sizeOf5
  v5 := Try.zeroValue5
  t9 := Try.underlying9
  a9 := Try.isAgg9
  z9 := Try.sizeOf9
  v9 := Try.zeroValue9
  t28 := Try.underlying24
  a28 := Try.isAgg24
  z28 := Try.sizeOf24
  v28 := Try.zeroValue24
  t46 := Try.underlying89
  a46 := Try.isAgg89
  z46 := Try.sizeOf89
  v46 := Try.zeroValue89
  t51 := Try.underlying104
  a51 := Try.isAgg104
  z51 := Try.sizeOf104
  v51 := Try.zeroValue104
  t53 := Try.underlying106
  a53 := Try.isAgg106
  z53 := Try.sizeOf106
  v53 := Try.zeroValue106
  t131 := Try.underlying101
  a131 := Try.isAgg101
  z131 := Try.sizeOf101
  v131 := Try.zeroValue101
  t182 := Try.underlying96
  a182 := Try.isAgg96
  z182 := Try.sizeOf96
  v182 := Try.zeroValue96
  t183 := Try.underlying97
  a183 := Try.isAgg97
  z183 := Try.sizeOf97
  v183 := Try.zeroValue97
  t218 := Try.underlying107
  a218 := Try.isAgg107
  z218 := Try.sizeOf107
  v218 := Try.zeroValue107
  t222 := Try.underlying111
  a222 := Try.isAgg111
  z222 := Try.sizeOf111
  v222 := Try.zeroValue111
  t228 := Try.underlying113
  a228 := Try.isAgg113
  z228 := Try.sizeOf113
  v228 := Try.zeroValue113
  t229 := Try.underlying114
  a229 := Try.isAgg114
  z229 := Try.sizeOf114
  v229 := Try.zeroValue114 }
end Go.Proofs
