/-
  The next power of two and the generator of the sort, by the shelf, laid at this program.
-/
import Derived.Shelf.SlGeneric
import Derived.Shelf.SlLaysM
import Derived.KernelRfl
import Derived.Test.YtjdjfhioobhcjaaProg
namespace Go.Proofs.Ytjdjfhioobhcjaa
open Go.Shelf
def Try.npowA_ren : Go.Shelf.Ren := ⟨fun | 31 => 106 | 8 => 92 | 19 => 103 | 20 => 104 | n => n, fun | 3 => 3 | 32 => 90 | 44 => 94 | 46 => 29 | 4 => 4 | 5 => 5 | 9 => 9 | n => n, fun | n => n⟩
theorem Try.npowA : Go.Proofs.SlLaysM.n31 Try.prog Try.npowA_ren := {
  mixed := by kernel_rfl
  f8 := Try.func92.trans (congrArg some (by kernel_rfl))
  f19 := Try.func103.trans (congrArg some (by kernel_rfl))
  f20 := Try.func104.trans (congrArg some (by kernel_rfl))
  f31 := Try.func106.trans (congrArg some (by kernel_rfl))
  t3 := Try.underlying3
  a3 := Try.isAgg3
  z3 := Try.sizeOf3
  v3 := Try.zeroValue3
  t4 := Try.underlying4
  a4 := Try.isAgg4
  z4 := Try.sizeOf4
  v4 := Try.zeroValue4
  t5 := Try.underlying5
  a5 := Try.isAgg5
  z5 := Try.sizeOf5
  v5 := Try.zeroValue5
  t9 := Try.underlying9
  a9 := Try.isAgg9
  z9 := Try.sizeOf9
  v9 := Try.zeroValue9
  t32 := Try.underlying90
  a32 := Try.isAgg90
  z32 := Try.sizeOf90
  v32 := Try.zeroValue90
  t44 := Try.underlying94
  a44 := Try.isAgg94
  z44 := Try.sizeOf94
  v44 := Try.zeroValue94
  t46 := Try.underlying29
  a46 := Try.isAgg29
  z46 := Try.sizeOf29
  v46 := Try.zeroValue29 }
def Try.xorA_ren : Go.Shelf.Ren := ⟨fun | 32 => 107 | n => n, fun | 63 => 175 | 46 => 29 | 0 => 0 | 53 => 170 | 32 => 90 | n => n, fun | n => n⟩
theorem Try.xorA : Go.Proofs.SlLaysM.n32 Try.prog Try.xorA_ren := {
  mixed := by kernel_rfl
  f32 := Try.func107.trans (congrArg some (by kernel_rfl))
  t0 := Try.underlying0
  a0 := Try.isAgg0
  z0 := Try.sizeOf0
  v0 := Try.zeroValue0
  t32 := Try.underlying90
  a32 := Try.isAgg90
  z32 := Try.sizeOf90
  v32 := Try.zeroValue90
  t46 := Try.underlying29
  a46 := Try.isAgg29
  z46 := Try.sizeOf29
  v46 := Try.zeroValue29
  t53 := Try.underlying170
  a53 := Try.isAgg170
  z53 := Try.sizeOf170
  v53 := Try.zeroValue170
  t63 := Try.underlying175
  a63 := Try.isAgg175
  z63 := Try.sizeOf175
  v63 := Try.zeroValue175 }
end Go.Proofs.Ytjdjfhioobhcjaa
