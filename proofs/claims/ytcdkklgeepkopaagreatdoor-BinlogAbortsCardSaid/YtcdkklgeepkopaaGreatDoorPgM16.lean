/- A contract of the library, laid at this program: numbers of functions, types, variables. -/
import Derived.Test.YtcdkklgeepkopaaGreatDoorProg
import Derived.Shelf.Lays
import Derived.Ground.NamesProg
namespace Go.Proofs
open Go.Shelf
def Tryz.laysValid_ren : Go.Shelf.Ren := ⟨fun | 196 => 172 | 259 => 179 | n => n, fun | 9 => 9 | 4 => 4 | 3 => 3 | 5 => 5 | 12 => 12 | 119 => 200 | 0 => 0 | 46 => 136 | 139 => 203 | 138 => 202 | 53 => 101 | n => n, fun | 3 => 0 | 4 => 1 | n => n⟩
theorem Tryz.laysValid : Go.Proofs.Lays.n196 Tryz.prog Tryz.laysValid_ren := {
 mixed := by kernel_rfl
 f196 := Tryz.func172.trans (congrArg some (by kernel_rfl))
 f259 := Tryz.func179.trans (congrArg some (by kernel_rfl))
 t0 := Tryz.underlying0
 a0 := Tryz.isAgg0
 z0 := Tryz.sizeOf0
 v0 := Tryz.zeroValue0
 t3 := Tryz.underlying3
 a3 := Tryz.isAgg3
 z3 := Tryz.sizeOf3
 v3 := Tryz.zeroValue3
 t4 := Tryz.underlying4
 a4 := Tryz.isAgg4
 z4 := Tryz.sizeOf4
 v4 := Tryz.zeroValue4
 t5 := Tryz.underlying5
 a5 := Tryz.isAgg5
 z5 := Tryz.sizeOf5
 v5 := Tryz.zeroValue5
 t9 := Tryz.underlying9
 a9 := Tryz.isAgg9
 z9 := Tryz.sizeOf9
 v9 := Tryz.zeroValue9
 t12 := Tryz.underlying12
 a12 := Tryz.isAgg12
 z12 := Tryz.sizeOf12
 v12 := Tryz.zeroValue12
 t46 := Tryz.underlying136
 a46 := Tryz.isAgg136
 z46 := Tryz.sizeOf136
 v46 := Tryz.zeroValue136
 t53 := Tryz.underlying101
 a53 := Tryz.isAgg101
 z53 := Tryz.sizeOf101
 v53 := Tryz.zeroValue101
 t119 := Tryz.underlying200
 a119 := Tryz.isAgg200
 z119 := Tryz.sizeOf200
 t138 := Tryz.underlying202
 a138 := Tryz.isAgg202
 z138 := Tryz.sizeOf202
 v138 := Tryz.zeroValue202
 t139 := Tryz.underlying203
 a139 := Tryz.isAgg203
 z139 := Tryz.sizeOf203
 v139 := Tryz.zeroValue203
 g3 := by kernel_rfl
 g4 := by kernel_rfl }
end Go.Proofs
