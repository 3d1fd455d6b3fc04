/-
  The closed facts of the program that every law's frame asks.
-/
import Derived.Test.YtabanackdjlcmaaLib
import Derived.Test.YtabanackdjlcmaaRows
namespace Go.Proofs.Ytabanackdjlcmaa

theorem Try.own : ownKnob Try.prog.godebug = none := by kernel_rfl
theorem Try.laidOut : laidOutB Try.prog = true := by kernel_rfl
end Go.Proofs.Ytabanackdjlcmaa
