/-
  The keys of a map of numbers, collected: what they are. No function in sight.
-/
import Derived.RangeFuncNested
import Derived.RangeFuncBound
import Derived.RangeFuncCalls
import Derived.RangeFuncLeaves
import Derived.RangeFuncBox
import Derived.Shelf.Abstract
import Derived.Shelf.RegionOpen
import Derived.OwnWalkIn
import Derived.TacticsInMore
import Derived.LoopNIn
import Derived.LoopIn
import Derived.Sort.MapsRangeIn
import Derived.Maps.RangeWalk
import Derived.Maps.AppendAt
import Derived.Test.YtgmdedkingampaaGreatLib5
import Derived.Test.YtgmdedkingampaaGreatProg
set_option linter.unusedVariables false
set_option linter.unusedSimpArgs false
namespace Go.Proofs.YtgmdedkingampaaGreat
open Go.RowKit Go.Shelf Go.Maps

attribute [local go_sem] Oper.semAt_some

/-- Which keys have come. -/
def CollU {H : Type} (D0 : DataW H) (left : Lit → Bool) (ss : List Int) : Prop := ss.Nodup ∧ ∀ x, x ∈ ss ↔ (has D0 (.int .u64 x) = true ∧ left (.int .u64 x) = false)
theorem CollU.start {H : Type} (D0 : DataW H) : CollU D0 (has D0) [] := ⟨List.nodup_nil, fun x => by cases has D0 (.int .u64 x) <;> simp⟩
theorem CollU.step {H : Type} {D0 : DataW H} {left : Lit → Bool} {ss : List Int} (h : CollU D0 left ss) {x : Int} {y : DataW H} (hlk : left (.int .u64 x) = true) (hat : ∀ zd, D0.atKey (.int .u64 x) zd = y) : CollU D0 (fun z => left z && !z.sameKey (.int .u64 x)) (ss ++ [x]) := by
  have hhas : has D0 (.int .u64 x) = true := has_true_of_atKey hat
  have hnew : x ∉ ss := fun hx => by have := ((h.2 x).1 hx).2; rw [hlk] at this; cases this
  refine ⟨List.nodup_append.2 ⟨h.1, by simp, fun a ha b hb => by simp at hb; subst hb; exact fun e => hnew (e ▸ ha)⟩, fun y => ?_⟩
  by_cases hy : y = x
  · subst hy; simp [hhas, Lit.sameKey]
  · simp [h.2 y, hy, Lit.sameKey]
/-- All keys of a map, each once. -/
def AllKeys (f : Lit → Option Value) (ss : List Int) : Prop := ss.Nodup ∧ ∀ x, x ∈ ss ↔ (f (.int .u64 x)).isSome = true

end Go.Proofs.YtgmdedkingampaaGreat
