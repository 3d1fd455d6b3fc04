/-
  The next power of two and the generator of the sort, by the shelf, laid at this program.
-/
import Derived.Shelf.SlGeneric
import Derived.Shelf.SlLaysM
import Derived.KernelRfl
import Derived.Test.YtdmfladjhjpafaaProg
import Derived.KernelRfl
namespace Go.Proofs.Ytdmfladjhjpafaa
open Go.Shelf
def Try.npowA_ren : Go.Shelf.Ren := ⟨fun | 31 => 57 | 8 => 44 | 19 => 54 | 20 => 55 | n => n, fun | 3 => 3 | 32 => 88 | 44 => 102 | 46 => 28 | 4 => 4 | 5 => 5 | 9 => 9 | n => n, fun | n => n⟩
theorem Try.npowA : Go.Proofs.SlLaysM.n31 Try.prog Try.npowA_ren := {
  mixed := by kernel_rfl
  f8 := Try.func44.trans (congrArg some (by kernel_rfl))
  f19 := Try.func54.trans (congrArg some (by kernel_rfl))
  f20 := Try.func55.trans (congrArg some (by kernel_rfl))
  f31 := Try.func57.trans (congrArg some (by kernel_rfl))
  t3 := Try.underlying3
  a3 := Try.isAgg3
  z3 := Try.sizeOf3
  v3 := Try.zeroValue3
  t4 := Try.underlying4
  a4 := Try.isAgg4
  z4 := Try.sizeOf4
  v4 := Try.zeroValue4
  t5 := Try.underlying5
  a5 := Try.isAgg5
  z5 := Try.sizeOf5
  v5 := Try.zeroValue5
  t9 := Try.underlying9
  a9 := Try.isAgg9
  z9 := Try.sizeOf9
  v9 := Try.zeroValue9
  t32 := Try.underlying88
  a32 := Try.isAgg88
  z32 := Try.sizeOf88
  v32 := Try.zeroValue88
  t44 := Try.underlying102
  a44 := Try.isAgg102
  z44 := Try.sizeOf102
  v44 := Try.zeroValue102
  t46 := Try.underlying28
  a46 := Try.isAgg28
  z46 := Try.sizeOf28
  v46 := Try.zeroValue28 }
def Try.xorA_ren : Go.Shelf.Ren := ⟨fun | 32 => 58 | n => n, fun | 63 => 109 | 46 => 28 | 0 => 0 | 53 => 104 | 32 => 88 | n => n, fun | n => n⟩
theorem Try.xorA : Go.Proofs.SlLaysM.n32 Try.prog Try.xorA_ren := {
  mixed := by kernel_rfl
  f32 := Try.func58.trans (congrArg some (by kernel_rfl))
  t0 := Try.underlying0
  a0 := Try.isAgg0
  z0 := Try.sizeOf0
  v0 := Try.zeroValue0
  t32 := Try.underlying88
  a32 := Try.isAgg88
  z32 := Try.sizeOf88
  v32 := Try.zeroValue88
  t46 := Try.underlying28
  a46 := Try.isAgg28
  z46 := Try.sizeOf28
  v46 := Try.zeroValue28
  t53 := Try.underlying104
  a53 := Try.isAgg104
  z53 := Try.sizeOf104
  v53 := Try.zeroValue104
  t63 := Try.underlying109
  a63 := Try.isAgg109
  z63 := Try.sizeOf109
  v63 := Try.zeroValue109 }
end Go.Proofs.Ytdmfladjhjpafaa
