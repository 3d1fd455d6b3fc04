/-
  The closed facts of the program that every law's frame asks.
-/
import Derived.Test.YtgmdedkingampaaGreatLib
import Derived.Test.YtgmdedkingampaaGreatRows
set_option linter.unusedVariables false
set_option linter.unusedSimpArgs false
namespace Go.Proofs.YtgmdedkingampaaGreat

theorem Tryz.own : ownKnob Tryz.prog.godebug = none := by kernel_rfl
theorem Tryz.laidOut : laidOutB Tryz.prog = true := by kernel_rfl
end Go.Proofs.YtgmdedkingampaaGreat
