/-
  No cell of these rows narrows 'for every input' (looked for: loops, veiled, ifaces, maps, wideKeys, modest, calm, conditions, laid).
  DERIVED. THE GIVEN ROWS OF THIS SEAT. 10 by the template 'for every input the law returns true; each argument reads behind the call as it read before'; 0 by the template 'total and deterministic' (their statements: YtabanackdjlcmaaTotals.lean).
  GIVEN WITH THE SEED: the statements are not yours to turn. If you find one false, say at which input.
  Laid BY PROGRAM, IN A SANDBOX (cutbox-rows.mjs): the forced cells as the released guide's own fill.sh prints them over the translation cbb996dacc000aaf… (all of the seat's roots in one cut). By AI agents, Wed Nov 11 2026. No macro, syntax, notation, axiom, sorry.
-/
import Derived.Test.YtabanackdjlcmaaChecked
import GoSem.Claim
import GoSem.ClaimJoined
import GoSem.ClaimMapViews
import Derived.JoinedTies
import Derived.KernelRfl
namespace Go.Proofs.Ytabanackdjlcmaa
/- THE CELL 'sum', in the pinned program and in every row, IS THE sha256 OF THE DUMP (.gsa) THAT YtabanackdjlcmaaProg.lean LOADS. Nothing in Lean hashes anything: it is a label: what it is worth is what the hold of that sum in a sandbox is worth. -/
noncomputable def Try.pinned : Pinned := { name := "ytabanackdjlcmaa", sum := "cbb996dacc000aaf687646b566d230431f6a16caab943e44c5f7a580ab21e2fe", checked := Try.checked }
namespace Rows
def none {H : Type} : Left H := { results := [], args := [] }

/-- 'notcherlaw20.GatherOrder': WHATEVER THE INPUT: true; the input reads as it did. -/
def gatherOrderSpec : ChangeSpec := { name := "gatherOrder", fn := fun _ => fun
  | [d1, d2] => { results := [.lit (.bool true)], args := [d1, d2] }
  | _ => none }
def gatherOrderRow : OpenClaim := { program := "ytabanackdjlcmaa", sum := "cbb996dacc000aaf687646b566d230431f6a16caab943e44c5f7a580ab21e2fe", func := "notcher/notcherlaw20.GatherOrder", spec := "gatherOrder", unfollowed := true, recurses := true, plainKeys := false, apart := false }
def GatherOrderSaid : Prop := gatherOrderRow.holds Try.pinned (OpenSpec.ofChange gatherOrderSpec)

/-- ITS FALSE NEIGHBOUR: 'it returns false'. Refute it at one input. -/
def gatherOrderWrong : ChangeSpec := { name := "gatherOrder", fn := fun _ => fun
  | [d1, d2] => { results := [.lit (.bool false)], args := [d1, d2] }
  | _ => none }
def GatherOrderWrongFalsely : Prop := gatherOrderRow.holds Try.pinned (OpenSpec.ofChange gatherOrderWrong)

/-- 'notcherlaw20.GatherRows': WHATEVER THE INPUT: true; the input reads as it did. -/
def gatherRowsSpec : ChangeSpec := { name := "gatherRows", fn := fun _ => fun
  | [d1, d2, d3] => { results := [.lit (.bool true)], args := [d1, d2, d3] }
  | _ => none }
def gatherRowsRow : OpenClaim := { program := "ytabanackdjlcmaa", sum := "cbb996dacc000aaf687646b566d230431f6a16caab943e44c5f7a580ab21e2fe", func := "notcher/notcherlaw20.GatherRows", spec := "gatherRows", unfollowed := true, recurses := true, plainKeys := false, apart := false }
def GatherRowsSaid : Prop := gatherRowsRow.holds Try.pinned (OpenSpec.ofChange gatherRowsSpec)

/-- ITS FALSE NEIGHBOUR: 'it returns false'. Refute it at one input. -/
def gatherRowsWrong : ChangeSpec := { name := "gatherRows", fn := fun _ => fun
  | [d1, d2, d3] => { results := [.lit (.bool false)], args := [d1, d2, d3] }
  | _ => none }
def GatherRowsWrongFalsely : Prop := gatherRowsRow.holds Try.pinned (OpenSpec.ofChange gatherRowsWrong)

/-- 'notcherlaw20.GatherFinal': WHATEVER THE INPUT: true; the input reads as it did. -/
def gatherFinalSpec : ChangeSpec := { name := "gatherFinal", fn := fun _ => fun
  | [d1, d2, d3] => { results := [.lit (.bool true)], args := [d1, d2, d3] }
  | _ => none }
def gatherFinalRow : OpenClaim := { program := "ytabanackdjlcmaa", sum := "cbb996dacc000aaf687646b566d230431f6a16caab943e44c5f7a580ab21e2fe", func := "notcher/notcherlaw20.GatherFinal", spec := "gatherFinal", unfollowed := true, recurses := true, plainKeys := false, apart := false }
def GatherFinalSaid : Prop := gatherFinalRow.holds Try.pinned (OpenSpec.ofChange gatherFinalSpec)

/-- ITS FALSE NEIGHBOUR: 'it returns false'. Refute it at one input. -/
def gatherFinalWrong : ChangeSpec := { name := "gatherFinal", fn := fun _ => fun
  | [d1, d2, d3] => { results := [.lit (.bool false)], args := [d1, d2, d3] }
  | _ => none }
def GatherFinalWrongFalsely : Prop := gatherFinalRow.holds Try.pinned (OpenSpec.ofChange gatherFinalWrong)

/-- 'notcherlaw11.FoldSeals': WHATEVER THE INPUT: true; the input reads as it did. -/
def foldSealsSpec : ChangeSpec := { name := "foldSeals", fn := fun _ => fun
  | [d1, d2, d3] => { results := [.lit (.bool true)], args := [d1, d2, d3] }
  | _ => none }
def foldSealsRow : OpenClaim := { program := "ytabanackdjlcmaa", sum := "cbb996dacc000aaf687646b566d230431f6a16caab943e44c5f7a580ab21e2fe", func := "notcher/notcherlaw11.FoldSeals", spec := "foldSeals", inPlace := ["math/bits.Add64"], unfollowed := true, recurses := true, plainKeys := false, apart := false }
def FoldSealsSaid : Prop := foldSealsRow.holds Try.pinned (OpenSpec.ofChange foldSealsSpec)

/-- ITS FALSE NEIGHBOUR: 'it returns false'. Refute it at one input. -/
def foldSealsWrong : ChangeSpec := { name := "foldSeals", fn := fun _ => fun
  | [d1, d2, d3] => { results := [.lit (.bool false)], args := [d1, d2, d3] }
  | _ => none }
def FoldSealsWrongFalsely : Prop := foldSealsRow.holds Try.pinned (OpenSpec.ofChange foldSealsWrong)

/-- 'notcherlaw11.FoldTrims': WHATEVER THE INPUT: true; the input reads as it did. -/
def foldTrimsSpec : ChangeSpec := { name := "foldTrims", fn := fun _ => fun
  | [d1, d2, d3] => { results := [.lit (.bool true)], args := [d1, d2, d3] }
  | _ => none }
def foldTrimsRow : OpenClaim := { program := "ytabanackdjlcmaa", sum := "cbb996dacc000aaf687646b566d230431f6a16caab943e44c5f7a580ab21e2fe", func := "notcher/notcherlaw11.FoldTrims", spec := "foldTrims", inPlace := ["math/bits.Add64"], unfollowed := true, recurses := true, plainKeys := false, apart := false }
def FoldTrimsSaid : Prop := foldTrimsRow.holds Try.pinned (OpenSpec.ofChange foldTrimsSpec)

/-- ITS FALSE NEIGHBOUR: 'it returns false'. Refute it at one input. -/
def foldTrimsWrong : ChangeSpec := { name := "foldTrims", fn := fun _ => fun
  | [d1, d2, d3] => { results := [.lit (.bool false)], args := [d1, d2, d3] }
  | _ => none }
def FoldTrimsWrongFalsely : Prop := foldTrimsRow.holds Try.pinned (OpenSpec.ofChange foldTrimsWrong)

/-- 'notcherlaw11.FoldCuts': WHATEVER THE INPUT: true; the input reads as it did. -/
def foldCutsSpec : ChangeSpec := { name := "foldCuts", fn := fun _ => fun
  | [d1, d2] => { results := [.lit (.bool true)], args := [d1, d2] }
  | _ => none }
def foldCutsRow : OpenClaim := { program := "ytabanackdjlcmaa", sum := "cbb996dacc000aaf687646b566d230431f6a16caab943e44c5f7a580ab21e2fe", func := "notcher/notcherlaw11.FoldCuts", spec := "foldCuts", inPlace := ["math/bits.Add64"], unfollowed := true, recurses := true, plainKeys := false, apart := false }
def FoldCutsSaid : Prop := foldCutsRow.holds Try.pinned (OpenSpec.ofChange foldCutsSpec)

/-- ITS FALSE NEIGHBOUR: 'it returns false'. Refute it at one input. -/
def foldCutsWrong : ChangeSpec := { name := "foldCuts", fn := fun _ => fun
  | [d1, d2] => { results := [.lit (.bool false)], args := [d1, d2] }
  | _ => none }
def FoldCutsWrongFalsely : Prop := foldCutsRow.holds Try.pinned (OpenSpec.ofChange foldCutsWrong)

/-- 'notcherlaw20.GatherSafe': WHATEVER THE INPUT: true; the input reads as it did. -/
def gatherSafeSpec : ChangeSpec := { name := "gatherSafe", fn := fun _ => fun
  | [d1, d2, d3] => { results := [.lit (.bool true)], args := [d1, d2, d3] }
  | _ => none }
def gatherSafeRow : OpenClaim := { program := "ytabanackdjlcmaa", sum := "cbb996dacc000aaf687646b566d230431f6a16caab943e44c5f7a580ab21e2fe", func := "notcher/notcherlaw20.GatherSafe", spec := "gatherSafe", inPlace := ["math/bits.Add64"], unfollowed := true, recurses := true, plainKeys := false, apart := false }
def GatherSafeSaid : Prop := gatherSafeRow.holds Try.pinned (OpenSpec.ofChange gatherSafeSpec)

/-- ITS FALSE NEIGHBOUR: 'it returns false'. Refute it at one input. -/
def gatherSafeWrong : ChangeSpec := { name := "gatherSafe", fn := fun _ => fun
  | [d1, d2, d3] => { results := [.lit (.bool false)], args := [d1, d2, d3] }
  | _ => none }
def GatherSafeWrongFalsely : Prop := gatherSafeRow.holds Try.pinned (OpenSpec.ofChange gatherSafeWrong)

/-- 'notcherlaw11.FoldDense': WHATEVER THE INPUT: true; the input reads as it did. -/
def foldDenseSpec : ChangeSpec := { name := "foldDense", fn := fun _ => fun
  | [d] => { results := [.lit (.bool true)], args := [d] }
  | _ => none }
def foldDenseRow : OpenClaim := { program := "ytabanackdjlcmaa", sum := "cbb996dacc000aaf687646b566d230431f6a16caab943e44c5f7a580ab21e2fe", func := "notcher/notcherlaw11.FoldDense", spec := "foldDense", inPlace := ["math/bits.Add64"], unfollowed := true, recurses := true, plainKeys := false, apart := false }
def FoldDenseSaid : Prop := foldDenseRow.holds Try.pinned (OpenSpec.ofChange foldDenseSpec)

/-- ITS FALSE NEIGHBOUR: 'it returns false'. Refute it at one input. -/
def foldDenseWrong : ChangeSpec := { name := "foldDense", fn := fun _ => fun
  | [d] => { results := [.lit (.bool false)], args := [d] }
  | _ => none }
def FoldDenseWrongFalsely : Prop := foldDenseRow.holds Try.pinned (OpenSpec.ofChange foldDenseWrong)

/-- 'notcherlaw11.FoldGrows': WHATEVER THE INPUT: true; the input reads as it did. -/
def foldGrowsSpec : ChangeSpec := { name := "foldGrows", fn := fun _ => fun
  | [d1, d2] => { results := [.lit (.bool true)], args := [d1, d2] }
  | _ => none }
def foldGrowsRow : OpenClaim := { program := "ytabanackdjlcmaa", sum := "cbb996dacc000aaf687646b566d230431f6a16caab943e44c5f7a580ab21e2fe", func := "notcher/notcherlaw11.FoldGrows", spec := "foldGrows", inPlace := ["math/bits.Add64"], unfollowed := true, recurses := true, plainKeys := false, apart := false }
def FoldGrowsSaid : Prop := foldGrowsRow.holds Try.pinned (OpenSpec.ofChange foldGrowsSpec)

/-- ITS FALSE NEIGHBOUR: 'it returns false'. Refute it at one input. -/
def foldGrowsWrong : ChangeSpec := { name := "foldGrows", fn := fun _ => fun
  | [d1, d2] => { results := [.lit (.bool false)], args := [d1, d2] }
  | _ => none }
def FoldGrowsWrongFalsely : Prop := foldGrowsRow.holds Try.pinned (OpenSpec.ofChange foldGrowsWrong)

/-- 'notcherlaw11.FoldErrors': WHATEVER THE INPUT: true; the input reads as it did. -/
def foldErrorsSpec : ChangeSpec := { name := "foldErrors", fn := fun _ => fun
  | [d] => { results := [.lit (.bool true)], args := [d] }
  | _ => none }
def foldErrorsRow : OpenClaim := { program := "ytabanackdjlcmaa", sum := "cbb996dacc000aaf687646b566d230431f6a16caab943e44c5f7a580ab21e2fe", func := "notcher/notcherlaw11.FoldErrors", spec := "foldErrors", inPlace := ["math/bits.Add64"], unfollowed := true, recurses := true, plainKeys := false, apart := false }
def FoldErrorsSaid : Prop := foldErrorsRow.holds Try.pinned (OpenSpec.ofChange foldErrorsSpec)

/-- ITS FALSE NEIGHBOUR: 'it returns false'. Refute it at one input. -/
def foldErrorsWrong : ChangeSpec := { name := "foldErrors", fn := fun _ => fun
  | [d] => { results := [.lit (.bool false)], args := [d] }
  | _ => none }
def FoldErrorsWrongFalsely : Prop := foldErrorsRow.holds Try.pinned (OpenSpec.ofChange foldErrorsWrong)

/- THE SECOND FORM. 'bulk': how many values and letters a reading holds, each counted each time it is reached (what is shared counts as often as it is met; a slice's spare places count too). A statement '..UptoSaid' is the law's where the arguments, and the package variables that the reading takes, are together of bulk at most 1048576: NARROWER than '..Said'. Prove '..Said' where nothing that the law and all that it calls make is longer than what came in: it says more and counts as full. Else prove '..UptoSaid'. A law counts once. -/
mutual
def uptoBulk {H : Type} : DataW H → Nat
  | .lit (.string bytes) => bytes.length + 1
  | .lit _ => 1
  | .nil => 1
  | .ptr d => uptoBulk d + 1
  | .slice elems spare => uptoBulkAll elems + uptoBulkAll spare + 1
  | .agg parts => uptoBulkAll parts + 1
  | .iface _ d => uptoBulk d + 1
  | .map entries => uptoBulkEntries entries + 1
  | .held _ => 1
def uptoBulkAll {H : Type} : List (DataW H) → Nat
  | [] => 0
  | d :: r => uptoBulk d + uptoBulkAll r
def uptoBulkEntries {H : Type} : List (Lit × DataW H) → Nat
  | [] => 0
  | x :: r => uptoBulkEntry x + uptoBulkEntries r
def uptoBulkEntry {H : Type} : Lit × DataW H → Nat
  | (.string bytes, d) => bytes.length + uptoBulk d + 1
  | (_, d) => uptoBulk d + 1
 end
def uptoSmall : (H : Type) → List (DataW H) → Bool := fun _ ds => decide (uptoBulkAll ds ≤ 1048576)
def OpenSpec.upto (s : _root_.Go.ChangeSpec) : _root_.Go.OpenSpec := { _root_.Go.OpenSpec.ofChange s with cond := some uptoSmall }

/-- 'notcherlaw20.GatherOrder', WHERE WHAT IT READS IS OF BULK AT MOST 1048576: true; the input reads as it did. -/
def gatherOrderUptoRow : OpenClaim := { program := "ytabanackdjlcmaa", sum := "cbb996dacc000aaf687646b566d230431f6a16caab943e44c5f7a580ab21e2fe", func := "notcher/notcherlaw20.GatherOrder", spec := "gatherOrder", unfollowed := true, recurses := true, plainKeys := false, apart := false, narrowed := true }
def GatherOrderUptoSaid : Prop := gatherOrderUptoRow.holds Try.pinned (OpenSpec.upto gatherOrderSpec)

/-- 'notcherlaw20.GatherRows', WHERE WHAT IT READS IS OF BULK AT MOST 1048576: true; the input reads as it did. -/
def gatherRowsUptoRow : OpenClaim := { program := "ytabanackdjlcmaa", sum := "cbb996dacc000aaf687646b566d230431f6a16caab943e44c5f7a580ab21e2fe", func := "notcher/notcherlaw20.GatherRows", spec := "gatherRows", unfollowed := true, recurses := true, plainKeys := false, apart := false, narrowed := true }
def GatherRowsUptoSaid : Prop := gatherRowsUptoRow.holds Try.pinned (OpenSpec.upto gatherRowsSpec)

/-- 'notcherlaw20.GatherFinal', WHERE WHAT IT READS IS OF BULK AT MOST 1048576: true; the input reads as it did. -/
def gatherFinalUptoRow : OpenClaim := { program := "ytabanackdjlcmaa", sum := "cbb996dacc000aaf687646b566d230431f6a16caab943e44c5f7a580ab21e2fe", func := "notcher/notcherlaw20.GatherFinal", spec := "gatherFinal", unfollowed := true, recurses := true, plainKeys := false, apart := false, narrowed := true }
def GatherFinalUptoSaid : Prop := gatherFinalUptoRow.holds Try.pinned (OpenSpec.upto gatherFinalSpec)

/-- 'notcherlaw11.FoldSeals', WHERE WHAT IT READS IS OF BULK AT MOST 1048576: true; the input reads as it did. -/
def foldSealsUptoRow : OpenClaim := { program := "ytabanackdjlcmaa", sum := "cbb996dacc000aaf687646b566d230431f6a16caab943e44c5f7a580ab21e2fe", func := "notcher/notcherlaw11.FoldSeals", spec := "foldSeals", inPlace := ["math/bits.Add64"], unfollowed := true, recurses := true, plainKeys := false, apart := false, narrowed := true }
def FoldSealsUptoSaid : Prop := foldSealsUptoRow.holds Try.pinned (OpenSpec.upto foldSealsSpec)

/-- 'notcherlaw11.FoldTrims', WHERE WHAT IT READS IS OF BULK AT MOST 1048576: true; the input reads as it did. -/
def foldTrimsUptoRow : OpenClaim := { program := "ytabanackdjlcmaa", sum := "cbb996dacc000aaf687646b566d230431f6a16caab943e44c5f7a580ab21e2fe", func := "notcher/notcherlaw11.FoldTrims", spec := "foldTrims", inPlace := ["math/bits.Add64"], unfollowed := true, recurses := true, plainKeys := false, apart := false, narrowed := true }
def FoldTrimsUptoSaid : Prop := foldTrimsUptoRow.holds Try.pinned (OpenSpec.upto foldTrimsSpec)

/-- 'notcherlaw11.FoldCuts', WHERE WHAT IT READS IS OF BULK AT MOST 1048576: true; the input reads as it did. -/
def foldCutsUptoRow : OpenClaim := { program := "ytabanackdjlcmaa", sum := "cbb996dacc000aaf687646b566d230431f6a16caab943e44c5f7a580ab21e2fe", func := "notcher/notcherlaw11.FoldCuts", spec := "foldCuts", inPlace := ["math/bits.Add64"], unfollowed := true, recurses := true, plainKeys := false, apart := false, narrowed := true }
def FoldCutsUptoSaid : Prop := foldCutsUptoRow.holds Try.pinned (OpenSpec.upto foldCutsSpec)

/-- 'notcherlaw20.GatherSafe', WHERE WHAT IT READS IS OF BULK AT MOST 1048576: true; the input reads as it did. -/
def gatherSafeUptoRow : OpenClaim := { program := "ytabanackdjlcmaa", sum := "cbb996dacc000aaf687646b566d230431f6a16caab943e44c5f7a580ab21e2fe", func := "notcher/notcherlaw20.GatherSafe", spec := "gatherSafe", inPlace := ["math/bits.Add64"], unfollowed := true, recurses := true, plainKeys := false, apart := false, narrowed := true }
def GatherSafeUptoSaid : Prop := gatherSafeUptoRow.holds Try.pinned (OpenSpec.upto gatherSafeSpec)

/-- 'notcherlaw11.FoldDense', WHERE WHAT IT READS IS OF BULK AT MOST 1048576: true; the input reads as it did. -/
def foldDenseUptoRow : OpenClaim := { program := "ytabanackdjlcmaa", sum := "cbb996dacc000aaf687646b566d230431f6a16caab943e44c5f7a580ab21e2fe", func := "notcher/notcherlaw11.FoldDense", spec := "foldDense", inPlace := ["math/bits.Add64"], unfollowed := true, recurses := true, plainKeys := false, apart := false, narrowed := true }
def FoldDenseUptoSaid : Prop := foldDenseUptoRow.holds Try.pinned (OpenSpec.upto foldDenseSpec)

/-- 'notcherlaw11.FoldGrows', WHERE WHAT IT READS IS OF BULK AT MOST 1048576: true; the input reads as it did. -/
def foldGrowsUptoRow : OpenClaim := { program := "ytabanackdjlcmaa", sum := "cbb996dacc000aaf687646b566d230431f6a16caab943e44c5f7a580ab21e2fe", func := "notcher/notcherlaw11.FoldGrows", spec := "foldGrows", inPlace := ["math/bits.Add64"], unfollowed := true, recurses := true, plainKeys := false, apart := false, narrowed := true }
def FoldGrowsUptoSaid : Prop := foldGrowsUptoRow.holds Try.pinned (OpenSpec.upto foldGrowsSpec)

/-- 'notcherlaw11.FoldErrors', WHERE WHAT IT READS IS OF BULK AT MOST 1048576: true; the input reads as it did. -/
def foldErrorsUptoRow : OpenClaim := { program := "ytabanackdjlcmaa", sum := "cbb996dacc000aaf687646b566d230431f6a16caab943e44c5f7a580ab21e2fe", func := "notcher/notcherlaw11.FoldErrors", spec := "foldErrors", inPlace := ["math/bits.Add64"], unfollowed := true, recurses := true, plainKeys := false, apart := false, narrowed := true }
def FoldErrorsUptoSaid : Prop := foldErrorsUptoRow.holds Try.pinned (OpenSpec.upto foldErrorsSpec)

end Rows
end Go.Proofs.Ytabanackdjlcmaa
