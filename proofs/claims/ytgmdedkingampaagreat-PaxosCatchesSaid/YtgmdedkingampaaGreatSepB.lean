/-
  Blocks known whole, among other things of the call's own.
-/
import Derived.Test.YtgmdedkingampaaGreatAcc7
import Derived.Laws.BitsLemmas
import Derived.Deep.OwnRows
set_option linter.unusedVariables false
set_option linter.unusedSimpArgs false
namespace Go.Proofs.YtgmdedkingampaaGreat
open Go.ChangeShapes Go.WideShapes Go.ChangeAt Go.RowKit Go.Maps
set_option maxRecDepth 100000

theorem and15 {z : Int} (h : 0 ≤ z ∧ z ≤ 255) : bits BinOp.and IntKind.u8 z 15 = z % 16 := bits_mask .u8 8 (by decide) wraps_u8 4 (by decide) z h.1 (by omega)
theorem and31 {z : Int} (h : 0 ≤ z ∧ z ≤ 255) : bits BinOp.and IntKind.u8 z 31 = z % 32 := bits_mask .u8 8 (by decide) wraps_u8 5 (by decide) z h.1 (by omega)
/-- Is a number among the first remainders? -/
def hasF (xs : List Int) (i : Nat) (a : Int) : Bool := ((xs.take i).map (· % 16)).contains a
theorem hasF_zero (xs : List Int) (a : Int) : hasF xs 0 a = false := rfl
theorem hasF_succ {xs : List Int} {i : Nat} {x : Int} (h : xs[i]? = some x) (a : Int) : hasF xs (i + 1) a = (hasF xs i a || a == x % 16) := by
  obtain ⟨h1, h2⟩ := List.getElem?_eq_some_iff.1 h
  unfold hasF
  rw [List.take_succ_eq_append_getElem h1, h2, List.map_append]
  rw [Bool.eq_iff_iff]
  simp
theorem hasF_le {xs : List Int} {i : Nat} {a : Int} (h : hasF xs i a = true) : 0 ≤ a ∧ a < 16 := by
  unfold hasF at h
  obtain ⟨x, _, rfl⟩ := List.mem_map.1 (List.contains_iff_mem.1 h)
  omega
end Go.Proofs.YtgmdedkingampaaGreat

namespace Go.Proofs.YtgmdedkingampaaGreat
open Go.ChangeShapes Go.WideShapes Go.ChangeAt Go.RowKit Go.Maps Go.Shelf
set_option maxRecDepth 100000

theorem nil_promised (w : World) : Calls Tryz.prog 42 #[.pointer none] w fun e w' => e = .returned (.int .u64 0) ∧ w = w' := by
  go_enter Tryz.func42, Tryz.ntmps42
  go_wp2_with fail
  go_ret
  exact ⟨rfl, rfl⟩
theorem nil_low (w : World) : Calls Tryz.prog 89 #[.pointer none] w fun e w' => e = .returned (.int .u64 0) ∧ w = w' := by
  go_enter Tryz.func89, Tryz.ntmps89
  go_wp2_with fail
  go_ret
  exact ⟨rfl, rfl⟩
theorem nil_prepare (w : World) (x fr : Int) : Calls Tryz.prog 43 #[.pointer none, .int .u64 x, .int .u64 fr] w fun e w' => e = .returned (.tuple #[.slice none 0 0, .int .i64 1]) ∧ w = w' := by
  go_enter Tryz.func43, Tryz.ntmps43
  go_wp2_with fail
  refine bodyPost_ret (v := .tuple #[.slice none 0 0, .int .i64 1]) (by simp [results, Tryz.results43, go_sem]) rfl ?_
  exact ⟨rfl, rfl⟩
theorem nil_accept (w : World) : Calls Tryz.prog 93 #[.pointer none, .agg #[.int .u64 0, .int .u64 0, .slice none 0 0]] w fun e w' => e = .returned (.int .i64 1) ∧ Below w.heap.size w w' := by
  go_enter Tryz.func93, Tryz.ntmps93
  go_wp2_with fail
  go_ret
  exact ⟨rfl, (Below.refl _ _).alloc (Nat.le_refl _) _⟩
theorem nil_voted (w : World) (s : Int) : Calls Tryz.prog 92 #[.pointer none, .int .u64 s] w fun e w' => e = .returned (.tuple #[.agg #[.int .u64 0, .int .u64 0, .slice none 0 0], .bool false]) ∧ Below w.heap.size w w' := by
  have k1 := heap_alloc_new w (.cells #[.int .u64 0, .int .u64 0, .slice none 0 0] 80)
  go_enter Tryz.func92, Tryz.ntmps92
  go_wp2_with fail
  have HB := Lib.hid ((Below.refl w.heap.size w).alloc (Nat.le_refl _) (.cells #[.int .u64 0, .int .u64 0, .slice none 0 0] 80))
  generalize w.alloc (.cells #[.int .u64 0, .int .u64 0, .slice none 0 0] 80) = W4 at *
  have s0 : W4.cell? ⟨w.heap.size, 0, none⟩ = some (.int .u64 0) := World.news_of_block k1 0 _ rfl
  have s1 : W4.cell? ⟨w.heap.size, 1, none⟩ = some (.int .u64 0) := World.news_of_block k1 1 _ rfl
  have s2 : W4.cell? ⟨w.heap.size, 2, none⟩ = some (.slice none 0 0) := World.news_of_block k1 2 _ rfl
  refine bodyPost_ret (v := .tuple #[.agg #[.int .u64 0, .int .u64 0, .slice none 0 0], .bool false]) (by simp [results, Tryz.results92, go_sem, s0, s1, s2]) rfl ?_
  exact ⟨rfl, HB.out⟩
end Go.Proofs.YtgmdedkingampaaGreat

namespace Go.Proofs.YtgmdedkingampaaGreat
open Go.ChangeShapes Go.WideShapes Go.ChangeAt Go.RowKit Go.Maps

section
variable {W w w' : World} {os : List Ob}
theorem SepW.vtL (h : SepW W w os) (i : Nat) {v : Value} {e : TypeId} {vs : List Value} {hs : List Vt} (hi : os[i]? = some (obVts v e vs hs)) : VtL w v hs := by
  have hv : (obVts v e vs hs).inv w := h.get i hi
  exact VtL.of_own hv.1 hv.2.1
end
end Go.Proofs.YtgmdedkingampaaGreat
