/-
  Package acceptor: calls of a pointer that is nil.
-/
import Derived.Test.YtjdjfhioobhcjaaAcc8
namespace Go.Proofs.Ytjdjfhioobhcjaa
open Go.ChangeShapes Go.WideShapes Go.ChangeAt Go.RowKit Go.Maps Go.Shelf
set_option maxRecDepth 100000

theorem nil_forget (w : World) (s : Int) : Calls Try.prog 20 #[.pointer none, .int .u64 s] w fun e w' => e = .returned (.tuple #[]) ∧ Below w.heap.size w w' := by
  go_enter Try.func20, Try.ntmps20
  go_wp2_with fail
  refine bodyPost_ret (results_none rfl _ _ _) rfl ?_
  exact ⟨rfl, Below.refl _ _⟩
theorem nil_promised (w : World) : Calls Try.prog 19 #[.pointer none] w fun e w' => e = .returned (.int .u64 0) ∧ w = w' := by
  go_enter Try.func19, Try.ntmps19
  go_wp2_with fail
  go_ret
  exact ⟨rfl, rfl⟩
theorem nil_low (w : World) : Calls Try.prog 21 #[.pointer none] w fun e w' => e = .returned (.int .u64 0) ∧ w = w' := by
  go_enter Try.func21, Try.ntmps21
  go_wp2_with fail
  go_ret
  exact ⟨rfl, rfl⟩
theorem nil_prepare (w : World) (x fr : Int) : Calls Try.prog 17 #[.pointer none, .int .u64 x, .int .u64 fr] w fun e w' => e = .returned (.tuple #[.slice none 0 0, .int .i64 1]) ∧ w = w' := by
  go_enter Try.func17, Try.ntmps17
  go_wp2_with fail
  refine bodyPost_ret (v := .tuple #[.slice none 0 0, .int .i64 1]) (by simp [results, Try.results17, go_sem]) rfl ?_
  exact ⟨rfl, rfl⟩
theorem nil_accept (w : World) : Calls Try.prog 18 #[.pointer none, .agg #[.int .u64 0, .int .u64 0, .slice none 0 0]] w fun e w' => e = .returned (.int .i64 1) ∧ Below w.heap.size w w' := by
  go_enter Try.func18, Try.ntmps18
  go_wp2_with fail
  go_ret
  exact ⟨rfl, (Below.refl _ _).alloc (Nat.le_refl _) _⟩
theorem nil_voted (w : World) (s : Int) : Calls Try.prog 27 #[.pointer none, .int .u64 s] w fun e w' => e = .returned (.tuple #[.agg #[.int .u64 0, .int .u64 0, .slice none 0 0], .bool false]) ∧ Below w.heap.size w w' := by
  have k1 := heap_alloc_new w (.cells #[.int .u64 0, .int .u64 0, .slice none 0 0] 39)
  go_enter Try.func27, Try.ntmps27
  go_wp2_with fail
  have HB := Lib.hid ((Below.refl w.heap.size w).alloc (Nat.le_refl _) (.cells #[.int .u64 0, .int .u64 0, .slice none 0 0] 39))
  generalize w.alloc (.cells #[.int .u64 0, .int .u64 0, .slice none 0 0] 39) = W4 at *
  have s0 : W4.cell? ⟨w.heap.size, 0, none⟩ = some (.int .u64 0) := World.news_of_block k1 0 _ rfl
  have s1 : W4.cell? ⟨w.heap.size, 1, none⟩ = some (.int .u64 0) := World.news_of_block k1 1 _ rfl
  have s2 : W4.cell? ⟨w.heap.size, 2, none⟩ = some (.slice none 0 0) := World.news_of_block k1 2 _ rfl
  refine bodyPost_ret (v := .tuple #[.agg #[.int .u64 0, .int .u64 0, .slice none 0 0], .bool false]) (by simp [results, Try.results27, go_sem, s0, s1, s2]) rfl ?_
  exact ⟨rfl, HB.out⟩
end Go.Proofs.Ytjdjfhioobhcjaa
