/-
  No cell of these rows narrows 'for every input' (looked for: loops, veiled, ifaces, maps, wideKeys, modest, calm, conditions, laid).
  DERIVED. THE GIVEN ROWS OF THIS SEAT. 12 by the template 'for every input the law returns true; each argument reads behind the call as it read before'; 0 by the template 'total and deterministic' (their statements: YtjdjfhioobhcjaaTotals.lean).
  GIVEN WITH THE SEED: the statements are not yours to turn. If you find one false, say at which input.
  Laid BY PROGRAM, IN A SANDBOX (cutbox-rows.mjs): the forced cells as the released guide's own fill.sh prints them over the translation 1ff8058f45bcc89a… (all of the seat's roots in one cut). By AI agents, Wed Nov 11 2026. No macro, syntax, notation, axiom, sorry.
-/
import Derived.Test.YtjdjfhioobhcjaaChecked
import GoSem.Claim
import GoSem.ClaimJoined
import GoSem.ClaimMapViews
import Derived.JoinedTies
import Derived.KernelRfl
namespace Go.Proofs.Ytjdjfhioobhcjaa
/- THE CELL 'sum', in the pinned program and in every row, IS THE sha256 OF THE DUMP (.gsa) THAT YtjdjfhioobhcjaaProg.lean LOADS. Nothing in Lean hashes anything: it is a label: what it is worth is what the hold of that sum in a sandbox is worth. -/
noncomputable def Try.pinned : Pinned := { name := "ytjdjfhioobhcjaa", sum := "1ff8058f45bcc89abe73ce26fa04969e9a46c332b163dbc72a06c1fd02bcc1cb", checked := Try.checked }
namespace Rows
def none {H : Type} : Left H := { results := [], args := [] }

/-- 'notcherlaw13.AcceptorKeeps': WHATEVER THE INPUT: true; the input reads as it did. -/
def acceptorKeepsSpec : ChangeSpec := { name := "acceptorKeeps", fn := fun _ => fun
  | [d] => { results := [.lit (.bool true)], args := [d] }
  | _ => none }
def acceptorKeepsRow : OpenClaim := { program := "ytjdjfhioobhcjaa", sum := "1ff8058f45bcc89abe73ce26fa04969e9a46c332b163dbc72a06c1fd02bcc1cb", func := "notcher/notcherlaw13.AcceptorKeeps", spec := "acceptorKeeps", unfollowed := true, recurses := true, apart := false }
def AcceptorKeepsSaid : Prop := acceptorKeepsRow.holds Try.pinned (OpenSpec.ofChange acceptorKeepsSpec)

/-- ITS FALSE NEIGHBOUR: 'it returns false'. Refute it at one input. -/
def acceptorKeepsWrong : ChangeSpec := { name := "acceptorKeeps", fn := fun _ => fun
  | [d] => { results := [.lit (.bool false)], args := [d] }
  | _ => none }
def AcceptorKeepsWrongFalsely : Prop := acceptorKeepsRow.holds Try.pinned (OpenSpec.ofChange acceptorKeepsWrong)

/-- 'notcherlaw13.AcceptorFrom': WHATEVER THE INPUT: true; the input reads as it did. -/
def acceptorFromSpec : ChangeSpec := { name := "acceptorFrom", fn := fun _ => fun
  | [d1, d2, d3] => { results := [.lit (.bool true)], args := [d1, d2, d3] }
  | _ => none }
def acceptorFromRow : OpenClaim := { program := "ytjdjfhioobhcjaa", sum := "1ff8058f45bcc89abe73ce26fa04969e9a46c332b163dbc72a06c1fd02bcc1cb", func := "notcher/notcherlaw13.AcceptorFrom", spec := "acceptorFrom", unfollowed := true, recurses := true, apart := false }
def AcceptorFromSaid : Prop := acceptorFromRow.holds Try.pinned (OpenSpec.ofChange acceptorFromSpec)

/-- ITS FALSE NEIGHBOUR: 'it returns false'. Refute it at one input. -/
def acceptorFromWrong : ChangeSpec := { name := "acceptorFrom", fn := fun _ => fun
  | [d1, d2, d3] => { results := [.lit (.bool false)], args := [d1, d2, d3] }
  | _ => none }
def AcceptorFromWrongFalsely : Prop := acceptorFromRow.holds Try.pinned (OpenSpec.ofChange acceptorFromWrong)

/-- 'notcherlaw13.AcceptorForgets': WHATEVER THE INPUT: true; the input reads as it did. -/
def acceptorForgetsSpec : ChangeSpec := { name := "acceptorForgets", fn := fun _ => fun
  | [d1, d2] => { results := [.lit (.bool true)], args := [d1, d2] }
  | _ => none }
def acceptorForgetsRow : OpenClaim := { program := "ytjdjfhioobhcjaa", sum := "1ff8058f45bcc89abe73ce26fa04969e9a46c332b163dbc72a06c1fd02bcc1cb", func := "notcher/notcherlaw13.AcceptorForgets", spec := "acceptorForgets", unfollowed := true, recurses := true, apart := false }
def AcceptorForgetsSaid : Prop := acceptorForgetsRow.holds Try.pinned (OpenSpec.ofChange acceptorForgetsSpec)

/-- ITS FALSE NEIGHBOUR: 'it returns false'. Refute it at one input. -/
def acceptorForgetsWrong : ChangeSpec := { name := "acceptorForgets", fn := fun _ => fun
  | [d1, d2] => { results := [.lit (.bool false)], args := [d1, d2] }
  | _ => none }
def AcceptorForgetsWrongFalsely : Prop := acceptorForgetsRow.holds Try.pinned (OpenSpec.ofChange acceptorForgetsWrong)

/-- 'notcherlaw13.AcceptorPlays': WHATEVER THE INPUT: true; the input reads as it did. -/
def acceptorPlaysSpec : ChangeSpec := { name := "acceptorPlays", fn := fun _ => fun
  | [d] => { results := [.lit (.bool true)], args := [d] }
  | _ => none }
def acceptorPlaysRow : OpenClaim := { program := "ytjdjfhioobhcjaa", sum := "1ff8058f45bcc89abe73ce26fa04969e9a46c332b163dbc72a06c1fd02bcc1cb", func := "notcher/notcherlaw13.AcceptorPlays", spec := "acceptorPlays", unfollowed := true, recurses := true, apart := false }
def AcceptorPlaysSaid : Prop := acceptorPlaysRow.holds Try.pinned (OpenSpec.ofChange acceptorPlaysSpec)

/-- ITS FALSE NEIGHBOUR: 'it returns false'. Refute it at one input. -/
def acceptorPlaysWrong : ChangeSpec := { name := "acceptorPlays", fn := fun _ => fun
  | [d] => { results := [.lit (.bool false)], args := [d] }
  | _ => none }
def AcceptorPlaysWrongFalsely : Prop := acceptorPlaysRow.holds Try.pinned (OpenSpec.ofChange acceptorPlaysWrong)

/-- 'notcherlaw15.LeaderPlays': WHATEVER THE INPUT: true; the input reads as it did. -/
def leaderPlaysSpec : ChangeSpec := { name := "leaderPlays", fn := fun _ => fun
  | [d1, d2] => { results := [.lit (.bool true)], args := [d1, d2] }
  | _ => none }
def leaderPlaysRow : OpenClaim := { program := "ytjdjfhioobhcjaa", sum := "1ff8058f45bcc89abe73ce26fa04969e9a46c332b163dbc72a06c1fd02bcc1cb", func := "notcher/notcherlaw15.LeaderPlays", spec := "leaderPlays", unfollowed := true, recurses := true, apart := false }
def LeaderPlaysSaid : Prop := leaderPlaysRow.holds Try.pinned (OpenSpec.ofChange leaderPlaysSpec)

/-- ITS FALSE NEIGHBOUR: 'it returns false'. Refute it at one input. -/
def leaderPlaysWrong : ChangeSpec := { name := "leaderPlays", fn := fun _ => fun
  | [d1, d2] => { results := [.lit (.bool false)], args := [d1, d2] }
  | _ => none }
def LeaderPlaysWrongFalsely : Prop := leaderPlaysRow.holds Try.pinned (OpenSpec.ofChange leaderPlaysWrong)

/-- 'notcherlaw15.LeaderSlots': WHATEVER THE INPUT: true; the input reads as it did. -/
def leaderSlotsSpec : ChangeSpec := { name := "leaderSlots", fn := fun _ => fun
  | [d1, d2, d3] => { results := [.lit (.bool true)], args := [d1, d2, d3] }
  | _ => none }
def leaderSlotsRow : OpenClaim := { program := "ytjdjfhioobhcjaa", sum := "1ff8058f45bcc89abe73ce26fa04969e9a46c332b163dbc72a06c1fd02bcc1cb", func := "notcher/notcherlaw15.LeaderSlots", spec := "leaderSlots", unfollowed := true, recurses := true, apart := false }
def LeaderSlotsSaid : Prop := leaderSlotsRow.holds Try.pinned (OpenSpec.ofChange leaderSlotsSpec)

/-- ITS FALSE NEIGHBOUR: 'it returns false'. Refute it at one input. -/
def leaderSlotsWrong : ChangeSpec := { name := "leaderSlots", fn := fun _ => fun
  | [d1, d2, d3] => { results := [.lit (.bool false)], args := [d1, d2, d3] }
  | _ => none }
def LeaderSlotsWrongFalsely : Prop := leaderSlotsRow.holds Try.pinned (OpenSpec.ofChange leaderSlotsWrong)

/-- 'notcherlaw15.LeaderHoles': WHATEVER THE INPUT: true; the input reads as it did. -/
def leaderHolesSpec : ChangeSpec := { name := "leaderHoles", fn := fun _ => fun
  | [d1, d2, d3] => { results := [.lit (.bool true)], args := [d1, d2, d3] }
  | _ => none }
def leaderHolesRow : OpenClaim := { program := "ytjdjfhioobhcjaa", sum := "1ff8058f45bcc89abe73ce26fa04969e9a46c332b163dbc72a06c1fd02bcc1cb", func := "notcher/notcherlaw15.LeaderHoles", spec := "leaderHoles", unfollowed := true, recurses := true, apart := false }
def LeaderHolesSaid : Prop := leaderHolesRow.holds Try.pinned (OpenSpec.ofChange leaderHolesSpec)

/-- ITS FALSE NEIGHBOUR: 'it returns false'. Refute it at one input. -/
def leaderHolesWrong : ChangeSpec := { name := "leaderHoles", fn := fun _ => fun
  | [d1, d2, d3] => { results := [.lit (.bool false)], args := [d1, d2, d3] }
  | _ => none }
def LeaderHolesWrongFalsely : Prop := leaderHolesRow.holds Try.pinned (OpenSpec.ofChange leaderHolesWrong)

/-- 'notcherlaw15.LeaderStops': WHATEVER THE INPUT: true; the input reads as it did. -/
def leaderStopsSpec : ChangeSpec := { name := "leaderStops", fn := fun _ => fun
  | [d1, d2, d3] => { results := [.lit (.bool true)], args := [d1, d2, d3] }
  | _ => none }
def leaderStopsRow : OpenClaim := { program := "ytjdjfhioobhcjaa", sum := "1ff8058f45bcc89abe73ce26fa04969e9a46c332b163dbc72a06c1fd02bcc1cb", func := "notcher/notcherlaw15.LeaderStops", spec := "leaderStops", unfollowed := true, recurses := true, apart := false }
def LeaderStopsSaid : Prop := leaderStopsRow.holds Try.pinned (OpenSpec.ofChange leaderStopsSpec)

/-- ITS FALSE NEIGHBOUR: 'it returns false'. Refute it at one input. -/
def leaderStopsWrong : ChangeSpec := { name := "leaderStops", fn := fun _ => fun
  | [d1, d2, d3] => { results := [.lit (.bool false)], args := [d1, d2, d3] }
  | _ => none }
def LeaderStopsWrongFalsely : Prop := leaderStopsRow.holds Try.pinned (OpenSpec.ofChange leaderStopsWrong)

/-- 'notcherlaw15.LeaderLate': WHATEVER THE INPUT: true; the input reads as it did. -/
def leaderLateSpec : ChangeSpec := { name := "leaderLate", fn := fun _ => fun
  | [d1, d2, d3] => { results := [.lit (.bool true)], args := [d1, d2, d3] }
  | _ => none }
def leaderLateRow : OpenClaim := { program := "ytjdjfhioobhcjaa", sum := "1ff8058f45bcc89abe73ce26fa04969e9a46c332b163dbc72a06c1fd02bcc1cb", func := "notcher/notcherlaw15.LeaderLate", spec := "leaderLate", unfollowed := true, recurses := true, apart := false }
def LeaderLateSaid : Prop := leaderLateRow.holds Try.pinned (OpenSpec.ofChange leaderLateSpec)

/-- ITS FALSE NEIGHBOUR: 'it returns false'. Refute it at one input. -/
def leaderLateWrong : ChangeSpec := { name := "leaderLate", fn := fun _ => fun
  | [d1, d2, d3] => { results := [.lit (.bool false)], args := [d1, d2, d3] }
  | _ => none }
def LeaderLateWrongFalsely : Prop := leaderLateRow.holds Try.pinned (OpenSpec.ofChange leaderLateWrong)

/-- 'notcherlaw15.LeaderSafe': WHATEVER THE INPUT: true; the input reads as it did. -/
def leaderSafeSpec : ChangeSpec := { name := "leaderSafe", fn := fun _ => fun
  | [d1, d2, d3, d4, d5, d6, d7] => { results := [.lit (.bool true)], args := [d1, d2, d3, d4, d5, d6, d7] }
  | _ => none }
def leaderSafeRow : OpenClaim := { program := "ytjdjfhioobhcjaa", sum := "1ff8058f45bcc89abe73ce26fa04969e9a46c332b163dbc72a06c1fd02bcc1cb", func := "notcher/notcherlaw15.LeaderSafe", spec := "leaderSafe", unfollowed := true, recurses := true, apart := false }
def LeaderSafeSaid : Prop := leaderSafeRow.holds Try.pinned (OpenSpec.ofChange leaderSafeSpec)

/-- ITS FALSE NEIGHBOUR: 'it returns false'. Refute it at one input. -/
def leaderSafeWrong : ChangeSpec := { name := "leaderSafe", fn := fun _ => fun
  | [d1, d2, d3, d4, d5, d6, d7] => { results := [.lit (.bool false)], args := [d1, d2, d3, d4, d5, d6, d7] }
  | _ => none }
def LeaderSafeWrongFalsely : Prop := leaderSafeRow.holds Try.pinned (OpenSpec.ofChange leaderSafeWrong)

/-- 'notcherlaw13.AcceptorVotes': WHATEVER THE INPUT: true; the input reads as it did. -/
def acceptorVotesSpec : ChangeSpec := { name := "acceptorVotes", fn := fun _ => fun
  | [d1, d2] => { results := [.lit (.bool true)], args := [d1, d2] }
  | _ => none }
def acceptorVotesRow : OpenClaim := { program := "ytjdjfhioobhcjaa", sum := "1ff8058f45bcc89abe73ce26fa04969e9a46c332b163dbc72a06c1fd02bcc1cb", func := "notcher/notcherlaw13.AcceptorVotes", spec := "acceptorVotes", unfollowed := true, recurses := true, apart := false }
def AcceptorVotesSaid : Prop := acceptorVotesRow.holds Try.pinned (OpenSpec.ofChange acceptorVotesSpec)

/-- ITS FALSE NEIGHBOUR: 'it returns false'. Refute it at one input. -/
def acceptorVotesWrong : ChangeSpec := { name := "acceptorVotes", fn := fun _ => fun
  | [d1, d2] => { results := [.lit (.bool false)], args := [d1, d2] }
  | _ => none }
def AcceptorVotesWrongFalsely : Prop := acceptorVotesRow.holds Try.pinned (OpenSpec.ofChange acceptorVotesWrong)

/-- 'notcherlaw13.AcceptorBack': WHATEVER THE INPUT: true; the input reads as it did. -/
def acceptorBackSpec : ChangeSpec := { name := "acceptorBack", fn := fun _ => fun
  | [d1, d2, d3] => { results := [.lit (.bool true)], args := [d1, d2, d3] }
  | _ => none }
def acceptorBackRow : OpenClaim := { program := "ytjdjfhioobhcjaa", sum := "1ff8058f45bcc89abe73ce26fa04969e9a46c332b163dbc72a06c1fd02bcc1cb", func := "notcher/notcherlaw13.AcceptorBack", spec := "acceptorBack", unfollowed := true, recurses := true, apart := false }
def AcceptorBackSaid : Prop := acceptorBackRow.holds Try.pinned (OpenSpec.ofChange acceptorBackSpec)

/-- ITS FALSE NEIGHBOUR: 'it returns false'. Refute it at one input. -/
def acceptorBackWrong : ChangeSpec := { name := "acceptorBack", fn := fun _ => fun
  | [d1, d2, d3] => { results := [.lit (.bool false)], args := [d1, d2, d3] }
  | _ => none }
def AcceptorBackWrongFalsely : Prop := acceptorBackRow.holds Try.pinned (OpenSpec.ofChange acceptorBackWrong)

/- THE SECOND FORM. 'bulk': how many values and letters a reading holds, each counted each time it is reached (what is shared counts as often as it is met; a slice's spare places count too). A statement '..UptoSaid' is the law's where the arguments, and the package variables that the reading takes, are together of bulk at most 1048576: NARROWER than '..Said'. Prove '..Said' where nothing that the law and all that it calls make is longer than what came in: it says more and counts as full. Else prove '..UptoSaid'. A law counts once. -/
mutual
def uptoBulk {H : Type} : DataW H → Nat
  | .lit (.string bytes) => bytes.length + 1
  | .lit _ => 1
  | .nil => 1
  | .ptr d => uptoBulk d + 1
  | .slice elems spare => uptoBulkAll elems + uptoBulkAll spare + 1
  | .agg parts => uptoBulkAll parts + 1
  | .iface _ d => uptoBulk d + 1
  | .map entries => uptoBulkEntries entries + 1
  | .held _ => 1
def uptoBulkAll {H : Type} : List (DataW H) → Nat
  | [] => 0
  | d :: r => uptoBulk d + uptoBulkAll r
def uptoBulkEntries {H : Type} : List (Lit × DataW H) → Nat
  | [] => 0
  | x :: r => uptoBulkEntry x + uptoBulkEntries r
def uptoBulkEntry {H : Type} : Lit × DataW H → Nat
  | (.string bytes, d) => bytes.length + uptoBulk d + 1
  | (_, d) => uptoBulk d + 1
 end
def uptoSmall : (H : Type) → List (DataW H) → Bool := fun _ ds => decide (uptoBulkAll ds ≤ 1048576)
def OpenSpec.upto (s : _root_.Go.ChangeSpec) : _root_.Go.OpenSpec := { _root_.Go.OpenSpec.ofChange s with cond := some uptoSmall }

/-- 'notcherlaw13.AcceptorKeeps', WHERE WHAT IT READS IS OF BULK AT MOST 1048576: true; the input reads as it did. -/
def acceptorKeepsUptoRow : OpenClaim := { program := "ytjdjfhioobhcjaa", sum := "1ff8058f45bcc89abe73ce26fa04969e9a46c332b163dbc72a06c1fd02bcc1cb", func := "notcher/notcherlaw13.AcceptorKeeps", spec := "acceptorKeeps", unfollowed := true, recurses := true, apart := false, narrowed := true }
def AcceptorKeepsUptoSaid : Prop := acceptorKeepsUptoRow.holds Try.pinned (OpenSpec.upto acceptorKeepsSpec)

/-- 'notcherlaw13.AcceptorFrom', WHERE WHAT IT READS IS OF BULK AT MOST 1048576: true; the input reads as it did. -/
def acceptorFromUptoRow : OpenClaim := { program := "ytjdjfhioobhcjaa", sum := "1ff8058f45bcc89abe73ce26fa04969e9a46c332b163dbc72a06c1fd02bcc1cb", func := "notcher/notcherlaw13.AcceptorFrom", spec := "acceptorFrom", unfollowed := true, recurses := true, apart := false, narrowed := true }
def AcceptorFromUptoSaid : Prop := acceptorFromUptoRow.holds Try.pinned (OpenSpec.upto acceptorFromSpec)

/-- 'notcherlaw13.AcceptorForgets', WHERE WHAT IT READS IS OF BULK AT MOST 1048576: true; the input reads as it did. -/
def acceptorForgetsUptoRow : OpenClaim := { program := "ytjdjfhioobhcjaa", sum := "1ff8058f45bcc89abe73ce26fa04969e9a46c332b163dbc72a06c1fd02bcc1cb", func := "notcher/notcherlaw13.AcceptorForgets", spec := "acceptorForgets", unfollowed := true, recurses := true, apart := false, narrowed := true }
def AcceptorForgetsUptoSaid : Prop := acceptorForgetsUptoRow.holds Try.pinned (OpenSpec.upto acceptorForgetsSpec)

/-- 'notcherlaw13.AcceptorPlays', WHERE WHAT IT READS IS OF BULK AT MOST 1048576: true; the input reads as it did. -/
def acceptorPlaysUptoRow : OpenClaim := { program := "ytjdjfhioobhcjaa", sum := "1ff8058f45bcc89abe73ce26fa04969e9a46c332b163dbc72a06c1fd02bcc1cb", func := "notcher/notcherlaw13.AcceptorPlays", spec := "acceptorPlays", unfollowed := true, recurses := true, apart := false, narrowed := true }
def AcceptorPlaysUptoSaid : Prop := acceptorPlaysUptoRow.holds Try.pinned (OpenSpec.upto acceptorPlaysSpec)

/-- 'notcherlaw15.LeaderPlays', WHERE WHAT IT READS IS OF BULK AT MOST 1048576: true; the input reads as it did. -/
def leaderPlaysUptoRow : OpenClaim := { program := "ytjdjfhioobhcjaa", sum := "1ff8058f45bcc89abe73ce26fa04969e9a46c332b163dbc72a06c1fd02bcc1cb", func := "notcher/notcherlaw15.LeaderPlays", spec := "leaderPlays", unfollowed := true, recurses := true, apart := false, narrowed := true }
def LeaderPlaysUptoSaid : Prop := leaderPlaysUptoRow.holds Try.pinned (OpenSpec.upto leaderPlaysSpec)

/-- 'notcherlaw15.LeaderSlots', WHERE WHAT IT READS IS OF BULK AT MOST 1048576: true; the input reads as it did. -/
def leaderSlotsUptoRow : OpenClaim := { program := "ytjdjfhioobhcjaa", sum := "1ff8058f45bcc89abe73ce26fa04969e9a46c332b163dbc72a06c1fd02bcc1cb", func := "notcher/notcherlaw15.LeaderSlots", spec := "leaderSlots", unfollowed := true, recurses := true, apart := false, narrowed := true }
def LeaderSlotsUptoSaid : Prop := leaderSlotsUptoRow.holds Try.pinned (OpenSpec.upto leaderSlotsSpec)

/-- 'notcherlaw15.LeaderHoles', WHERE WHAT IT READS IS OF BULK AT MOST 1048576: true; the input reads as it did. -/
def leaderHolesUptoRow : OpenClaim := { program := "ytjdjfhioobhcjaa", sum := "1ff8058f45bcc89abe73ce26fa04969e9a46c332b163dbc72a06c1fd02bcc1cb", func := "notcher/notcherlaw15.LeaderHoles", spec := "leaderHoles", unfollowed := true, recurses := true, apart := false, narrowed := true }
def LeaderHolesUptoSaid : Prop := leaderHolesUptoRow.holds Try.pinned (OpenSpec.upto leaderHolesSpec)

/-- 'notcherlaw15.LeaderStops', WHERE WHAT IT READS IS OF BULK AT MOST 1048576: true; the input reads as it did. -/
def leaderStopsUptoRow : OpenClaim := { program := "ytjdjfhioobhcjaa", sum := "1ff8058f45bcc89abe73ce26fa04969e9a46c332b163dbc72a06c1fd02bcc1cb", func := "notcher/notcherlaw15.LeaderStops", spec := "leaderStops", unfollowed := true, recurses := true, apart := false, narrowed := true }
def LeaderStopsUptoSaid : Prop := leaderStopsUptoRow.holds Try.pinned (OpenSpec.upto leaderStopsSpec)

/-- 'notcherlaw15.LeaderLate', WHERE WHAT IT READS IS OF BULK AT MOST 1048576: true; the input reads as it did. -/
def leaderLateUptoRow : OpenClaim := { program := "ytjdjfhioobhcjaa", sum := "1ff8058f45bcc89abe73ce26fa04969e9a46c332b163dbc72a06c1fd02bcc1cb", func := "notcher/notcherlaw15.LeaderLate", spec := "leaderLate", unfollowed := true, recurses := true, apart := false, narrowed := true }
def LeaderLateUptoSaid : Prop := leaderLateUptoRow.holds Try.pinned (OpenSpec.upto leaderLateSpec)

/-- 'notcherlaw15.LeaderSafe', WHERE WHAT IT READS IS OF BULK AT MOST 1048576: true; the input reads as it did. -/
def leaderSafeUptoRow : OpenClaim := { program := "ytjdjfhioobhcjaa", sum := "1ff8058f45bcc89abe73ce26fa04969e9a46c332b163dbc72a06c1fd02bcc1cb", func := "notcher/notcherlaw15.LeaderSafe", spec := "leaderSafe", unfollowed := true, recurses := true, apart := false, narrowed := true }
def LeaderSafeUptoSaid : Prop := leaderSafeUptoRow.holds Try.pinned (OpenSpec.upto leaderSafeSpec)

/-- 'notcherlaw13.AcceptorVotes', WHERE WHAT IT READS IS OF BULK AT MOST 1048576: true; the input reads as it did. -/
def acceptorVotesUptoRow : OpenClaim := { program := "ytjdjfhioobhcjaa", sum := "1ff8058f45bcc89abe73ce26fa04969e9a46c332b163dbc72a06c1fd02bcc1cb", func := "notcher/notcherlaw13.AcceptorVotes", spec := "acceptorVotes", unfollowed := true, recurses := true, apart := false, narrowed := true }
def AcceptorVotesUptoSaid : Prop := acceptorVotesUptoRow.holds Try.pinned (OpenSpec.upto acceptorVotesSpec)

/-- 'notcherlaw13.AcceptorBack', WHERE WHAT IT READS IS OF BULK AT MOST 1048576: true; the input reads as it did. -/
def acceptorBackUptoRow : OpenClaim := { program := "ytjdjfhioobhcjaa", sum := "1ff8058f45bcc89abe73ce26fa04969e9a46c332b163dbc72a06c1fd02bcc1cb", func := "notcher/notcherlaw13.AcceptorBack", spec := "acceptorBack", unfollowed := true, recurses := true, apart := false, narrowed := true }
def AcceptorBackUptoSaid : Prop := acceptorBackUptoRow.holds Try.pinned (OpenSpec.upto acceptorBackSpec)

end Rows
end Go.Proofs.Ytjdjfhioobhcjaa
