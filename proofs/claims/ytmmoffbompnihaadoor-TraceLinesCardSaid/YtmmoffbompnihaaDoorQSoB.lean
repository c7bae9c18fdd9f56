import Derived.Shelf.Slices.Delete
import Derived.Shelf.Strings.Cut
import Derived.Ground.NamesProg
import Derived.Ground.Names2Prog
import Derived.Test.YtmmoffbompnihaaDoorProg
namespace Go.Proofs
open Go.Shelf
def Tryd.lays145_ren : Go.Shelf.Ren := ⟨fun | 145 => 56 | 220 => 92 | 219 => 118 | 217 => 139 | 225 => 140 | 224 => 141 | 267 => 142 | 266 => 152 | 314 => 153 | n => n, fun | 9 => 9 | 4 => 4 | 59 => 84 | 3 => 3 | 5 => 5 | 46 => 148 | 146 => 162 | 51 => 161 | n => n, fun | 1 => 0 | n => n⟩
theorem Tryd.lays145 : Go.Proofs.Lays.n145 Tryd.prog Tryd.lays145_ren := {
 mixed := by kernel_rfl
 f145 := Tryd.func56.trans (congrArg some (by kernel_rfl))
 f217 := Tryd.func139.trans (congrArg some (by kernel_rfl))
 f219 := Tryd.func118.trans (congrArg some (by kernel_rfl))
 f220 := Tryd.func92.trans (congrArg some (by kernel_rfl))
 f224 := Tryd.func141.trans (congrArg some (by kernel_rfl))
 f225 := Tryd.func140.trans (congrArg some (by kernel_rfl))
 f266 := Tryd.func152.trans (congrArg some (by kernel_rfl))
 f267 := Tryd.func142.trans (congrArg some (by kernel_rfl))
 f314 := Tryd.func153.trans (congrArg some (by kernel_rfl))
 t3 := Tryd.underlying3
 a3 := Tryd.isAgg3
 z3 := Tryd.sizeOf3
 v3 := Tryd.zeroValue3
 t4 := Tryd.underlying4
 a4 := Tryd.isAgg4
 z4 := Tryd.sizeOf4
 v4 := Tryd.zeroValue4
 t5 := Tryd.underlying5
 a5 := Tryd.isAgg5
 z5 := Tryd.sizeOf5
 v5 := Tryd.zeroValue5
 t9 := Tryd.underlying9
 a9 := Tryd.isAgg9
 z9 := Tryd.sizeOf9
 v9 := Tryd.zeroValue9
 t46 := Tryd.underlying148
 a46 := Tryd.isAgg148
 z46 := Tryd.sizeOf148
 v46 := Tryd.zeroValue148
 t51 := Tryd.underlying161
 a51 := Tryd.isAgg161
 z51 := Tryd.sizeOf161
 v51 := Tryd.zeroValue161
 t59 := Tryd.underlying84
 a59 := Tryd.isAgg84
 z59 := Tryd.sizeOf84
 v59 := Tryd.zeroValue84
 t146 := Tryd.underlying162
 a146 := Tryd.isAgg162
 z146 := Tryd.sizeOf162
 v146 := Tryd.zeroValue162
 g1 := by kernel_rfl }
end Go.Proofs
