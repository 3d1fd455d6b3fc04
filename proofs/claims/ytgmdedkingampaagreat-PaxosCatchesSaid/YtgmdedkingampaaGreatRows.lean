/-
  No cell of these rows narrows 'for every input' (looked for: loops, veiled, ifaces, maps, wideKeys, modest, calm, conditions, laid).
  DERIVED. THE GIVEN ROWS OF THIS SEAT. 5 by the template 'for every input the law returns true; each argument reads behind the call as it read before'; 0 by the template 'total and deterministic' (their statements: YtgmdedkingampaaGreatTotals.lean).
  GIVEN WITH THE SEED: the statements are not yours to turn. If you find one false, say at which input.
  Laid BY PROGRAM, IN A SANDBOX (cutbox-rows.mjs): the forced cells as the released guide's own fill.sh prints them over the translation e8c198f04a5e33f7… (all of the seat's roots in one cut). By AI agents, Wed Nov 11 2026. No macro, syntax, notation, axiom, sorry.
-/
import Derived.Test.YtgmdedkingampaaGreatChecked
import GoSem.Claim
import GoSem.ClaimJoined
import GoSem.ClaimMapViews
import Derived.JoinedTies
import Derived.KernelRfl
namespace Go.Proofs.YtgmdedkingampaaGreat
/- THE CELL 'sum', in the pinned program and in every row, IS THE sha256 OF THE DUMP (.gsa) THAT YtgmdedkingampaaGreatProg.lean LOADS. Nothing in Lean hashes anything: it is a label: what it is worth is what the hold of that sum in a sandbox is worth. -/
noncomputable def Tryz.pinned : Pinned := { name := "ytgmdedkingampaagreat", sum := "e8c198f04a5e33f75ad6817c14768ce0ce7bad1e295a208aaf196c3a498ff907", checked := Tryz.checked }
namespace Rows
def none {H : Type} : Left H := { results := [], args := [] }

/-- 'notcherlaw17.PaxosCatches': WHATEVER THE INPUT: true; the input reads as it did. -/
def paxosCatchesSpec : ChangeSpec := { name := "paxosCatches", fn := fun _ => fun
  | [d1, d2] => { results := [.lit (.bool true)], args := [d1, d2] }
  | _ => none }
def paxosCatchesRow : OpenClaim := { program := "ytgmdedkingampaagreat", sum := "e8c198f04a5e33f75ad6817c14768ce0ce7bad1e295a208aaf196c3a498ff907", func := "notcher/notcherlaw17.PaxosCatches", spec := "paxosCatches", unfollowed := true, recurses := true, apart := false }
def PaxosCatchesSaid : Prop := paxosCatchesRow.holds Tryz.pinned (OpenSpec.ofChange paxosCatchesSpec)

/-- ITS FALSE NEIGHBOUR: 'it returns false'. Refute it at one input. -/
def paxosCatchesWrong : ChangeSpec := { name := "paxosCatches", fn := fun _ => fun
  | [d1, d2] => { results := [.lit (.bool false)], args := [d1, d2] }
  | _ => none }
def PaxosCatchesWrongFalsely : Prop := paxosCatchesRow.holds Tryz.pinned (OpenSpec.ofChange paxosCatchesWrong)

/-- 'notcherlaw17.PaxosMajority': WHATEVER THE INPUT: true; the input reads as it did. -/
def paxosMajoritySpec : ChangeSpec := { name := "paxosMajority", fn := fun _ => fun
  | [d1, d2] => { results := [.lit (.bool true)], args := [d1, d2] }
  | _ => none }
def paxosMajorityRow : OpenClaim := { program := "ytgmdedkingampaagreat", sum := "e8c198f04a5e33f75ad6817c14768ce0ce7bad1e295a208aaf196c3a498ff907", func := "notcher/notcherlaw17.PaxosMajority", spec := "paxosMajority", unfollowed := true, recurses := true, apart := false }
def PaxosMajoritySaid : Prop := paxosMajorityRow.holds Tryz.pinned (OpenSpec.ofChange paxosMajoritySpec)

/-- ITS FALSE NEIGHBOUR: 'it returns false'. Refute it at one input. -/
def paxosMajorityWrong : ChangeSpec := { name := "paxosMajority", fn := fun _ => fun
  | [d1, d2] => { results := [.lit (.bool false)], args := [d1, d2] }
  | _ => none }
def PaxosMajorityWrongFalsely : Prop := paxosMajorityRow.holds Tryz.pinned (OpenSpec.ofChange paxosMajorityWrong)

/-- 'notcherlaw17.PaxosStrange': WHATEVER THE INPUT: true; the input reads as it did. -/
def paxosStrangeSpec : ChangeSpec := { name := "paxosStrange", fn := fun _ => fun
  | [d1, d2, d3] => { results := [.lit (.bool true)], args := [d1, d2, d3] }
  | _ => none }
def paxosStrangeRow : OpenClaim := { program := "ytgmdedkingampaagreat", sum := "e8c198f04a5e33f75ad6817c14768ce0ce7bad1e295a208aaf196c3a498ff907", func := "notcher/notcherlaw17.PaxosStrange", spec := "paxosStrange", unfollowed := true, recurses := true, apart := false }
def PaxosStrangeSaid : Prop := paxosStrangeRow.holds Tryz.pinned (OpenSpec.ofChange paxosStrangeSpec)

/-- ITS FALSE NEIGHBOUR: 'it returns false'. Refute it at one input. -/
def paxosStrangeWrong : ChangeSpec := { name := "paxosStrange", fn := fun _ => fun
  | [d1, d2, d3] => { results := [.lit (.bool false)], args := [d1, d2, d3] }
  | _ => none }
def PaxosStrangeWrongFalsely : Prop := paxosStrangeRow.holds Tryz.pinned (OpenSpec.ofChange paxosStrangeWrong)

/-- 'notcherlaw17.PaxosAgrees': WHATEVER THE INPUT: true; the input reads as it did. -/
def paxosAgreesSpec : ChangeSpec := { name := "paxosAgrees", fn := fun _ => fun
  | [d1, d2] => { results := [.lit (.bool true)], args := [d1, d2] }
  | _ => none }
def paxosAgreesRow : OpenClaim := { program := "ytgmdedkingampaagreat", sum := "e8c198f04a5e33f75ad6817c14768ce0ce7bad1e295a208aaf196c3a498ff907", func := "notcher/notcherlaw17.PaxosAgrees", spec := "paxosAgrees", unfollowed := true, recurses := true, apart := false }
def PaxosAgreesSaid : Prop := paxosAgreesRow.holds Tryz.pinned (OpenSpec.ofChange paxosAgreesSpec)

/-- ITS FALSE NEIGHBOUR: 'it returns false'. Refute it at one input. -/
def paxosAgreesWrong : ChangeSpec := { name := "paxosAgrees", fn := fun _ => fun
  | [d1, d2] => { results := [.lit (.bool false)], args := [d1, d2] }
  | _ => none }
def PaxosAgreesWrongFalsely : Prop := paxosAgreesRow.holds Tryz.pinned (OpenSpec.ofChange paxosAgreesWrong)

/-- 'notcherlaw17.PaxosLives': WHATEVER THE INPUT: true; the input reads as it did. -/
def paxosLivesSpec : ChangeSpec := { name := "paxosLives", fn := fun _ => fun
  | [d1, d2, d3] => { results := [.lit (.bool true)], args := [d1, d2, d3] }
  | _ => none }
def paxosLivesRow : OpenClaim := { program := "ytgmdedkingampaagreat", sum := "e8c198f04a5e33f75ad6817c14768ce0ce7bad1e295a208aaf196c3a498ff907", func := "notcher/notcherlaw17.PaxosLives", spec := "paxosLives", unfollowed := true, recurses := true, apart := false }
def PaxosLivesSaid : Prop := paxosLivesRow.holds Tryz.pinned (OpenSpec.ofChange paxosLivesSpec)

/-- ITS FALSE NEIGHBOUR: 'it returns false'. Refute it at one input. -/
def paxosLivesWrong : ChangeSpec := { name := "paxosLives", fn := fun _ => fun
  | [d1, d2, d3] => { results := [.lit (.bool false)], args := [d1, d2, d3] }
  | _ => none }
def PaxosLivesWrongFalsely : Prop := paxosLivesRow.holds Tryz.pinned (OpenSpec.ofChange paxosLivesWrong)

/- THE SECOND FORM. 'bulk': how many values and letters a reading holds, each counted each time it is reached (what is shared counts as often as it is met; a slice's spare places count too). A statement '..UptoSaid' is the law's where the arguments, and the package variables that the reading takes, are together of bulk at most 1048576: NARROWER than '..Said'. Prove '..Said' where nothing that the law and all that it calls make is longer than what came in: it says more and counts as full. Else prove '..UptoSaid'. A law counts once. -/
mutual
def uptoBulk {H : Type} : DataW H → Nat
  | .lit (.string bytes) => bytes.length + 1
  | .lit _ => 1
  | .nil => 1
  | .ptr d => uptoBulk d + 1
  | .slice elems spare => uptoBulkAll elems + uptoBulkAll spare + 1
  | .agg parts => uptoBulkAll parts + 1
  | .iface _ d => uptoBulk d + 1
  | .map entries => uptoBulkEntries entries + 1
  | .held _ => 1
def uptoBulkAll {H : Type} : List (DataW H) → Nat
  | [] => 0
  | d :: r => uptoBulk d + uptoBulkAll r
def uptoBulkEntries {H : Type} : List (Lit × DataW H) → Nat
  | [] => 0
  | x :: r => uptoBulkEntry x + uptoBulkEntries r
def uptoBulkEntry {H : Type} : Lit × DataW H → Nat
  | (.string bytes, d) => bytes.length + uptoBulk d + 1
  | (_, d) => uptoBulk d + 1
 end
def uptoSmall : (H : Type) → List (DataW H) → Bool := fun _ ds => decide (uptoBulkAll ds ≤ 1048576)
def OpenSpec.upto (s : _root_.Go.ChangeSpec) : _root_.Go.OpenSpec := { _root_.Go.OpenSpec.ofChange s with cond := some uptoSmall }

/-- 'notcherlaw17.PaxosCatches', WHERE WHAT IT READS IS OF BULK AT MOST 1048576: true; the input reads as it did. -/
def paxosCatchesUptoRow : OpenClaim := { program := "ytgmdedkingampaagreat", sum := "e8c198f04a5e33f75ad6817c14768ce0ce7bad1e295a208aaf196c3a498ff907", func := "notcher/notcherlaw17.PaxosCatches", spec := "paxosCatches", unfollowed := true, recurses := true, apart := false, narrowed := true }
def PaxosCatchesUptoSaid : Prop := paxosCatchesUptoRow.holds Tryz.pinned (OpenSpec.upto paxosCatchesSpec)

/-- 'notcherlaw17.PaxosMajority', WHERE WHAT IT READS IS OF BULK AT MOST 1048576: true; the input reads as it did. -/
def paxosMajorityUptoRow : OpenClaim := { program := "ytgmdedkingampaagreat", sum := "e8c198f04a5e33f75ad6817c14768ce0ce7bad1e295a208aaf196c3a498ff907", func := "notcher/notcherlaw17.PaxosMajority", spec := "paxosMajority", unfollowed := true, recurses := true, apart := false, narrowed := true }
def PaxosMajorityUptoSaid : Prop := paxosMajorityUptoRow.holds Tryz.pinned (OpenSpec.upto paxosMajoritySpec)

/-- 'notcherlaw17.PaxosStrange', WHERE WHAT IT READS IS OF BULK AT MOST 1048576: true; the input reads as it did. -/
def paxosStrangeUptoRow : OpenClaim := { program := "ytgmdedkingampaagreat", sum := "e8c198f04a5e33f75ad6817c14768ce0ce7bad1e295a208aaf196c3a498ff907", func := "notcher/notcherlaw17.PaxosStrange", spec := "paxosStrange", unfollowed := true, recurses := true, apart := false, narrowed := true }
def PaxosStrangeUptoSaid : Prop := paxosStrangeUptoRow.holds Tryz.pinned (OpenSpec.upto paxosStrangeSpec)

/-- 'notcherlaw17.PaxosAgrees', WHERE WHAT IT READS IS OF BULK AT MOST 1048576: true; the input reads as it did. -/
def paxosAgreesUptoRow : OpenClaim := { program := "ytgmdedkingampaagreat", sum := "e8c198f04a5e33f75ad6817c14768ce0ce7bad1e295a208aaf196c3a498ff907", func := "notcher/notcherlaw17.PaxosAgrees", spec := "paxosAgrees", unfollowed := true, recurses := true, apart := false, narrowed := true }
def PaxosAgreesUptoSaid : Prop := paxosAgreesUptoRow.holds Tryz.pinned (OpenSpec.upto paxosAgreesSpec)

/-- 'notcherlaw17.PaxosLives', WHERE WHAT IT READS IS OF BULK AT MOST 1048576: true; the input reads as it did. -/
def paxosLivesUptoRow : OpenClaim := { program := "ytgmdedkingampaagreat", sum := "e8c198f04a5e33f75ad6817c14768ce0ce7bad1e295a208aaf196c3a498ff907", func := "notcher/notcherlaw17.PaxosLives", spec := "paxosLives", unfollowed := true, recurses := true, apart := false, narrowed := true }
def PaxosLivesUptoSaid : Prop := paxosLivesUptoRow.holds Tryz.pinned (OpenSpec.upto paxosLivesSpec)

end Rows
end Go.Proofs.YtgmdedkingampaaGreat
