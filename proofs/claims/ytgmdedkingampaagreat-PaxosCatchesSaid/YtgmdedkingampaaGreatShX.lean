/-
  The next power of two and the generator of the sort, by the shelf, laid at this program.
-/
import Derived.Shelf.SlGeneric
import Derived.Shelf.SlLaysM
import Derived.KernelRfl
import Derived.Test.YtgmdedkingampaaGreatProg
set_option linter.unusedVariables false
set_option linter.unusedSimpArgs false
namespace Go.Proofs.YtgmdedkingampaaGreat
open Go.Shelf
def Tryz.npowA_ren : Go.Shelf.Ren := ⟨fun | 31 => 156 | 8 => 133 | 19 => 151 | 20 => 152 | n => n, fun | 3 => 3 | 32 => 50 | 44 => 122 | 46 => 39 | 4 => 4 | 5 => 5 | 9 => 9 | n => n, fun | n => n⟩
theorem Tryz.npowA : Go.Proofs.SlLaysM.n31 Tryz.prog Tryz.npowA_ren := {
  mixed := by kernel_rfl
  f8 := Tryz.func133.trans (congrArg some (by kernel_rfl))
  f19 := Tryz.func151.trans (congrArg some (by kernel_rfl))
  f20 := Tryz.func152.trans (congrArg some (by kernel_rfl))
  f31 := Tryz.func156.trans (congrArg some (by kernel_rfl))
  t3 := Tryz.underlying3
  a3 := Tryz.isAgg3
  z3 := Tryz.sizeOf3
  v3 := Tryz.zeroValue3
  t4 := Tryz.underlying4
  a4 := Tryz.isAgg4
  z4 := Tryz.sizeOf4
  v4 := Tryz.zeroValue4
  t5 := Tryz.underlying5
  a5 := Tryz.isAgg5
  z5 := Tryz.sizeOf5
  v5 := Tryz.zeroValue5
  t9 := Tryz.underlying9
  a9 := Tryz.isAgg9
  z9 := Tryz.sizeOf9
  v9 := Tryz.zeroValue9
  t32 := Tryz.underlying50
  a32 := Tryz.isAgg50
  z32 := Tryz.sizeOf50
  v32 := Tryz.zeroValue50
  t44 := Tryz.underlying122
  a44 := Tryz.isAgg122
  z44 := Tryz.sizeOf122
  v44 := Tryz.zeroValue122
  t46 := Tryz.underlying39
  a46 := Tryz.isAgg39
  z46 := Tryz.sizeOf39
  v46 := Tryz.zeroValue39 }
def Tryz.xorA_ren : Go.Shelf.Ren := ⟨fun | 32 => 157 | n => n, fun | 63 => 236 | 46 => 39 | 0 => 0 | 53 => 228 | 32 => 50 | n => n, fun | n => n⟩
theorem Tryz.xorA : Go.Proofs.SlLaysM.n32 Tryz.prog Tryz.xorA_ren := {
  mixed := by kernel_rfl
  f32 := Tryz.func157.trans (congrArg some (by kernel_rfl))
  t0 := Tryz.underlying0
  a0 := Tryz.isAgg0
  z0 := Tryz.sizeOf0
  v0 := Tryz.zeroValue0
  t32 := Tryz.underlying50
  a32 := Tryz.isAgg50
  z32 := Tryz.sizeOf50
  v32 := Tryz.zeroValue50
  t46 := Tryz.underlying39
  a46 := Tryz.isAgg39
  z46 := Tryz.sizeOf39
  v46 := Tryz.zeroValue39
  t53 := Tryz.underlying228
  a53 := Tryz.isAgg228
  z53 := Tryz.sizeOf228
  v53 := Tryz.zeroValue228
  t63 := Tryz.underlying236
  a63 := Tryz.isAgg236
  z63 := Tryz.sizeOf236
  v63 := Tryz.zeroValue236 }
end Go.Proofs.YtgmdedkingampaaGreat
