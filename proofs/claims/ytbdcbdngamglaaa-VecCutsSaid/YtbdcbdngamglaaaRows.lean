/-
  No cell of these rows narrows 'for every input' (looked for: loops, veiled, ifaces, maps, wideKeys, modest, calm, conditions, laid).
  DERIVED. THE GIVEN ROWS OF THIS SEAT. 7 by the template 'for every input the law returns true; each argument reads behind the call as it read before'; 0 by the template 'total and deterministic' (their statements: YtbdcbdngamglaaaTotals.lean).
  GIVEN WITH THE SEED: the statements are not yours to turn. If you find one false, say at which input.
  Laid BY PROGRAM, IN A SANDBOX (cutbox-rows.mjs): the forced cells as the released guide's own fill.sh prints them over the translation 2dcdf71f9d1b6509… (all of the seat's roots in one cut). By AI agents, Wed Nov 11 2026. No macro, syntax, notation, axiom, sorry.
-/
import Derived.Test.YtbdcbdngamglaaaChecked
import GoSem.Claim
import GoSem.ClaimJoined
import GoSem.ClaimMapViews
import Derived.JoinedTies
import Derived.KernelRfl
namespace Go.Proofs.Ytbdcbdngamglaaa
/- THE CELL 'sum', in the pinned program and in every row, IS THE sha256 OF THE DUMP (.gsa) THAT YtbdcbdngamglaaaProg.lean LOADS. Nothing in Lean hashes anything: it is a label: what it is worth is what the hold of that sum in a sandbox is worth. -/
noncomputable def Try.pinned : Pinned := { name := "ytbdcbdngamglaaa", sum := "2dcdf71f9d1b6509255b647847f970d00325f625cada2c0c1d7ce92ac45d4f19", checked := Try.checked }
namespace Rows
def none {H : Type} : Left H := { results := [], args := [] }

/-- 'notcherlaw09.VecTells': WHATEVER THE INPUT: true; the input reads as it did. -/
def vecTellsSpec : ChangeSpec := { name := "vecTells", fn := fun _ => fun
  | [d1, d2, d3] => { results := [.lit (.bool true)], args := [d1, d2, d3] }
  | _ => none }
def vecTellsRow : OpenClaim := { program := "ytbdcbdngamglaaa", sum := "2dcdf71f9d1b6509255b647847f970d00325f625cada2c0c1d7ce92ac45d4f19", func := "notcher/notcherlaw09.VecTells", spec := "vecTells", inPlace := ["math/bits.Add64"], unfollowed := true, recurses := true, apart := false }
def VecTellsSaid : Prop := vecTellsRow.holds Try.pinned (OpenSpec.ofChange vecTellsSpec)

/-- ITS FALSE NEIGHBOUR: 'it returns false'. Refute it at one input. -/
def vecTellsWrong : ChangeSpec := { name := "vecTells", fn := fun _ => fun
  | [d1, d2, d3] => { results := [.lit (.bool false)], args := [d1, d2, d3] }
  | _ => none }
def VecTellsWrongFalsely : Prop := vecTellsRow.holds Try.pinned (OpenSpec.ofChange vecTellsWrong)

/-- 'notcherlaw09.VecBounds': WHATEVER THE INPUT: true; the input reads as it did. -/
def vecBoundsSpec : ChangeSpec := { name := "vecBounds", fn := fun _ => fun
  | [d] => { results := [.lit (.bool true)], args := [d] }
  | _ => none }
def vecBoundsRow : OpenClaim := { program := "ytbdcbdngamglaaa", sum := "2dcdf71f9d1b6509255b647847f970d00325f625cada2c0c1d7ce92ac45d4f19", func := "notcher/notcherlaw09.VecBounds", spec := "vecBounds", inPlace := ["math/bits.Add64"], unfollowed := true, recurses := true, apart := false }
def VecBoundsSaid : Prop := vecBoundsRow.holds Try.pinned (OpenSpec.ofChange vecBoundsSpec)

/-- ITS FALSE NEIGHBOUR: 'it returns false'. Refute it at one input. -/
def vecBoundsWrong : ChangeSpec := { name := "vecBounds", fn := fun _ => fun
  | [d] => { results := [.lit (.bool false)], args := [d] }
  | _ => none }
def VecBoundsWrongFalsely : Prop := vecBoundsRow.holds Try.pinned (OpenSpec.ofChange vecBoundsWrong)

/-- 'notcherlaw09.VecOrder': WHATEVER THE INPUT: true; the input reads as it did. -/
def vecOrderSpec : ChangeSpec := { name := "vecOrder", fn := fun _ => fun
  | [d1, d2, d3] => { results := [.lit (.bool true)], args := [d1, d2, d3] }
  | _ => none }
def vecOrderRow : OpenClaim := { program := "ytbdcbdngamglaaa", sum := "2dcdf71f9d1b6509255b647847f970d00325f625cada2c0c1d7ce92ac45d4f19", func := "notcher/notcherlaw09.VecOrder", spec := "vecOrder", inPlace := ["math/bits.Add64"], unfollowed := true, recurses := true, apart := false }
def VecOrderSaid : Prop := vecOrderRow.holds Try.pinned (OpenSpec.ofChange vecOrderSpec)

/-- ITS FALSE NEIGHBOUR: 'it returns false'. Refute it at one input. -/
def vecOrderWrong : ChangeSpec := { name := "vecOrder", fn := fun _ => fun
  | [d1, d2, d3] => { results := [.lit (.bool false)], args := [d1, d2, d3] }
  | _ => none }
def VecOrderWrongFalsely : Prop := vecOrderRow.holds Try.pinned (OpenSpec.ofChange vecOrderWrong)

/-- 'notcherlaw09.VecLess': WHATEVER THE INPUT: true; the input reads as it did. -/
def vecLessSpec : ChangeSpec := { name := "vecLess", fn := fun _ => fun
  | [d1, d2] => { results := [.lit (.bool true)], args := [d1, d2] }
  | _ => none }
def vecLessRow : OpenClaim := { program := "ytbdcbdngamglaaa", sum := "2dcdf71f9d1b6509255b647847f970d00325f625cada2c0c1d7ce92ac45d4f19", func := "notcher/notcherlaw09.VecLess", spec := "vecLess", inPlace := ["math/bits.Add64"], unfollowed := true, recurses := true, apart := false }
def VecLessSaid : Prop := vecLessRow.holds Try.pinned (OpenSpec.ofChange vecLessSpec)

/-- ITS FALSE NEIGHBOUR: 'it returns false'. Refute it at one input. -/
def vecLessWrong : ChangeSpec := { name := "vecLess", fn := fun _ => fun
  | [d1, d2] => { results := [.lit (.bool false)], args := [d1, d2] }
  | _ => none }
def VecLessWrongFalsely : Prop := vecLessRow.holds Try.pinned (OpenSpec.ofChange vecLessWrong)

/-- 'notcherlaw09.VecSums': WHATEVER THE INPUT: true; the input reads as it did. -/
def vecSumsSpec : ChangeSpec := { name := "vecSums", fn := fun _ => fun
  | [d1, d2] => { results := [.lit (.bool true)], args := [d1, d2] }
  | _ => none }
def vecSumsRow : OpenClaim := { program := "ytbdcbdngamglaaa", sum := "2dcdf71f9d1b6509255b647847f970d00325f625cada2c0c1d7ce92ac45d4f19", func := "notcher/notcherlaw09.VecSums", spec := "vecSums", inPlace := ["math/bits.Add64"], unfollowed := true, recurses := true, apart := false }
def VecSumsSaid : Prop := vecSumsRow.holds Try.pinned (OpenSpec.ofChange vecSumsSpec)

/-- ITS FALSE NEIGHBOUR: 'it returns false'. Refute it at one input. -/
def vecSumsWrong : ChangeSpec := { name := "vecSums", fn := fun _ => fun
  | [d1, d2] => { results := [.lit (.bool false)], args := [d1, d2] }
  | _ => none }
def VecSumsWrongFalsely : Prop := vecSumsRow.holds Try.pinned (OpenSpec.ofChange vecSumsWrong)

/-- 'notcherlaw09.VecCuts': WHATEVER THE INPUT: true; the input reads as it did. -/
def vecCutsSpec : ChangeSpec := { name := "vecCuts", fn := fun _ => fun
  | [d1, d2] => { results := [.lit (.bool true)], args := [d1, d2] }
  | _ => none }
def vecCutsRow : OpenClaim := { program := "ytbdcbdngamglaaa", sum := "2dcdf71f9d1b6509255b647847f970d00325f625cada2c0c1d7ce92ac45d4f19", func := "notcher/notcherlaw09.VecCuts", spec := "vecCuts", inPlace := ["math/bits.Add64"], unfollowed := true, recurses := true, apart := false }
def VecCutsSaid : Prop := vecCutsRow.holds Try.pinned (OpenSpec.ofChange vecCutsSpec)

/-- ITS FALSE NEIGHBOUR: 'it returns false'. Refute it at one input. -/
def vecCutsWrong : ChangeSpec := { name := "vecCuts", fn := fun _ => fun
  | [d1, d2] => { results := [.lit (.bool false)], args := [d1, d2] }
  | _ => none }
def VecCutsWrongFalsely : Prop := vecCutsRow.holds Try.pinned (OpenSpec.ofChange vecCutsWrong)

/-- 'notcherlaw09.VecFolds': WHATEVER THE INPUT: true; the input reads as it did. -/
def vecFoldsSpec : ChangeSpec := { name := "vecFolds", fn := fun _ => fun
  | [d1, d2] => { results := [.lit (.bool true)], args := [d1, d2] }
  | _ => none }
def vecFoldsRow : OpenClaim := { program := "ytbdcbdngamglaaa", sum := "2dcdf71f9d1b6509255b647847f970d00325f625cada2c0c1d7ce92ac45d4f19", func := "notcher/notcherlaw09.VecFolds", spec := "vecFolds", inPlace := ["math/bits.Add64"], unfollowed := true, recurses := true, apart := false }
def VecFoldsSaid : Prop := vecFoldsRow.holds Try.pinned (OpenSpec.ofChange vecFoldsSpec)

/-- ITS FALSE NEIGHBOUR: 'it returns false'. Refute it at one input. -/
def vecFoldsWrong : ChangeSpec := { name := "vecFolds", fn := fun _ => fun
  | [d1, d2] => { results := [.lit (.bool false)], args := [d1, d2] }
  | _ => none }
def VecFoldsWrongFalsely : Prop := vecFoldsRow.holds Try.pinned (OpenSpec.ofChange vecFoldsWrong)

/- THE SECOND FORM. 'bulk': how many values and letters a reading holds, each counted each time it is reached (what is shared counts as often as it is met; a slice's spare places count too). A statement '..UptoSaid' is the law's where the arguments, and the package variables that the reading takes, are together of bulk at most 1048576: NARROWER than '..Said'. Prove '..Said' where nothing that the law and all that it calls make is longer than what came in: it says more and counts as full. Else prove '..UptoSaid'. A law counts once. -/
mutual
def uptoBulk {H : Type} : DataW H → Nat
  | .lit (.string bytes) => bytes.length + 1
  | .lit _ => 1
  | .nil => 1
  | .ptr d => uptoBulk d + 1
  | .slice elems spare => uptoBulkAll elems + uptoBulkAll spare + 1
  | .agg parts => uptoBulkAll parts + 1
  | .iface _ d => uptoBulk d + 1
  | .map entries => uptoBulkEntries entries + 1
  | .held _ => 1
def uptoBulkAll {H : Type} : List (DataW H) → Nat
  | [] => 0
  | d :: r => uptoBulk d + uptoBulkAll r
def uptoBulkEntries {H : Type} : List (Lit × DataW H) → Nat
  | [] => 0
  | x :: r => uptoBulkEntry x + uptoBulkEntries r
def uptoBulkEntry {H : Type} : Lit × DataW H → Nat
  | (.string bytes, d) => bytes.length + uptoBulk d + 1
  | (_, d) => uptoBulk d + 1
 end
def uptoSmall : (H : Type) → List (DataW H) → Bool := fun _ ds => decide (uptoBulkAll ds ≤ 1048576)
def OpenSpec.upto (s : _root_.Go.ChangeSpec) : _root_.Go.OpenSpec := { _root_.Go.OpenSpec.ofChange s with cond := some uptoSmall }

/-- 'notcherlaw09.VecTells', WHERE WHAT IT READS IS OF BULK AT MOST 1048576: true; the input reads as it did. -/
def vecTellsUptoRow : OpenClaim := { program := "ytbdcbdngamglaaa", sum := "2dcdf71f9d1b6509255b647847f970d00325f625cada2c0c1d7ce92ac45d4f19", func := "notcher/notcherlaw09.VecTells", spec := "vecTells", inPlace := ["math/bits.Add64"], unfollowed := true, recurses := true, apart := false, narrowed := true }
def VecTellsUptoSaid : Prop := vecTellsUptoRow.holds Try.pinned (OpenSpec.upto vecTellsSpec)

/-- 'notcherlaw09.VecBounds', WHERE WHAT IT READS IS OF BULK AT MOST 1048576: true; the input reads as it did. -/
def vecBoundsUptoRow : OpenClaim := { program := "ytbdcbdngamglaaa", sum := "2dcdf71f9d1b6509255b647847f970d00325f625cada2c0c1d7ce92ac45d4f19", func := "notcher/notcherlaw09.VecBounds", spec := "vecBounds", inPlace := ["math/bits.Add64"], unfollowed := true, recurses := true, apart := false, narrowed := true }
def VecBoundsUptoSaid : Prop := vecBoundsUptoRow.holds Try.pinned (OpenSpec.upto vecBoundsSpec)

/-- 'notcherlaw09.VecOrder', WHERE WHAT IT READS IS OF BULK AT MOST 1048576: true; the input reads as it did. -/
def vecOrderUptoRow : OpenClaim := { program := "ytbdcbdngamglaaa", sum := "2dcdf71f9d1b6509255b647847f970d00325f625cada2c0c1d7ce92ac45d4f19", func := "notcher/notcherlaw09.VecOrder", spec := "vecOrder", inPlace := ["math/bits.Add64"], unfollowed := true, recurses := true, apart := false, narrowed := true }
def VecOrderUptoSaid : Prop := vecOrderUptoRow.holds Try.pinned (OpenSpec.upto vecOrderSpec)

/-- 'notcherlaw09.VecLess', WHERE WHAT IT READS IS OF BULK AT MOST 1048576: true; the input reads as it did. -/
def vecLessUptoRow : OpenClaim := { program := "ytbdcbdngamglaaa", sum := "2dcdf71f9d1b6509255b647847f970d00325f625cada2c0c1d7ce92ac45d4f19", func := "notcher/notcherlaw09.VecLess", spec := "vecLess", inPlace := ["math/bits.Add64"], unfollowed := true, recurses := true, apart := false, narrowed := true }
def VecLessUptoSaid : Prop := vecLessUptoRow.holds Try.pinned (OpenSpec.upto vecLessSpec)

/-- 'notcherlaw09.VecSums', WHERE WHAT IT READS IS OF BULK AT MOST 1048576: true; the input reads as it did. -/
def vecSumsUptoRow : OpenClaim := { program := "ytbdcbdngamglaaa", sum := "2dcdf71f9d1b6509255b647847f970d00325f625cada2c0c1d7ce92ac45d4f19", func := "notcher/notcherlaw09.VecSums", spec := "vecSums", inPlace := ["math/bits.Add64"], unfollowed := true, recurses := true, apart := false, narrowed := true }
def VecSumsUptoSaid : Prop := vecSumsUptoRow.holds Try.pinned (OpenSpec.upto vecSumsSpec)

/-- 'notcherlaw09.VecCuts', WHERE WHAT IT READS IS OF BULK AT MOST 1048576: true; the input reads as it did. -/
def vecCutsUptoRow : OpenClaim := { program := "ytbdcbdngamglaaa", sum := "2dcdf71f9d1b6509255b647847f970d00325f625cada2c0c1d7ce92ac45d4f19", func := "notcher/notcherlaw09.VecCuts", spec := "vecCuts", inPlace := ["math/bits.Add64"], unfollowed := true, recurses := true, apart := false, narrowed := true }
def VecCutsUptoSaid : Prop := vecCutsUptoRow.holds Try.pinned (OpenSpec.upto vecCutsSpec)

/-- 'notcherlaw09.VecFolds', WHERE WHAT IT READS IS OF BULK AT MOST 1048576: true; the input reads as it did. -/
def vecFoldsUptoRow : OpenClaim := { program := "ytbdcbdngamglaaa", sum := "2dcdf71f9d1b6509255b647847f970d00325f625cada2c0c1d7ce92ac45d4f19", func := "notcher/notcherlaw09.VecFolds", spec := "vecFolds", inPlace := ["math/bits.Add64"], unfollowed := true, recurses := true, apart := false, narrowed := true }
def VecFoldsUptoSaid : Prop := vecFoldsUptoRow.holds Try.pinned (OpenSpec.upto vecFoldsSpec)

end Rows
end Go.Proofs.Ytbdcbdngamglaaa
