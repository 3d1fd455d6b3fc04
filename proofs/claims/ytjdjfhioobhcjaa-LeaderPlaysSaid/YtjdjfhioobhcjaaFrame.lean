/-
  The closed facts of the program that every law's frame asks.
-/
import Derived.Test.YtjdjfhioobhcjaaLib
import Derived.Test.YtjdjfhioobhcjaaRows
namespace Go.Proofs.Ytjdjfhioobhcjaa

theorem Try.own : ownKnob Try.prog.godebug = none := by kernel_rfl
theorem Try.laidOut : laidOutB Try.prog = true := by kernel_rfl
end Go.Proofs.Ytjdjfhioobhcjaa
