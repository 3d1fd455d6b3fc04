/-
  Package leader: Propose.
-/
import Derived.Test.YtjdjfhioobhcjaaLea6
namespace Go.Proofs.Ytjdjfhioobhcjaa
open Go.ChangeShapes Go.WideShapes Go.ChangeAt Go.RowKit Go.Maps
set_option maxRecDepth 100000

theorem lpropose_state {D : Nat → Prop} {w : World} {b0 N : Nat} {ko lo : Option Nat} {A : LS} (h : LeaR w D b0 ko lo N A) {sv : Value} (hst : A.stage ≠ 2) :
    Calls Try.prog 36 #[.pointer (some ⟨b0, 0, none⟩), sv] w fun e w' => e = .returned (.tuple #[.agg #[.int .u64 0, .int .u64 0, .slice none 0 0], .int .i64 33]) ∧ Below w.heap.size w w' := by
  have hb1 := (Below.refl w.heap.size w).alloc (Nat.le_refl _) (.cells #[.int .u64 0, .int .u64 0, .slice none 0 0] 39)
  obtain ⟨⟨c0, c1, _⟩, _⟩ := (h.below hb1 (Nat.le_refl _)).cell
  have hb : (A.stage != 2) = true := by simp [hst]
  clear h hst
  go_enter Try.func36, Try.ntmps36
  go_wp2
  have hk := heap_alloc_new w (.cells #[.int .u64 0, .int .u64 0, .slice none 0 0] 39)
  obtain ⟨W4, HW4⟩ : ∃ x, x = w.alloc (.cells #[.int .u64 0, .int .u64 0, .slice none 0 0] 39) := ⟨_, rfl⟩
  rw [← HW4] at hk hb1 ⊢
  have s0 : W4.cell? ⟨w.heap.size, 0, none⟩ = some (.int .u64 0) := World.news_of_block hk 0 _ rfl
  have s1 : W4.cell? ⟨w.heap.size, 1, none⟩ = some (.int .u64 0) := World.news_of_block hk 1 _ rfl
  have s2 : W4.cell? ⟨w.heap.size, 2, none⟩ = some (.slice none 0 0) := World.news_of_block hk 2 _ rfl
  refine bodyPost_ret (v := .tuple #[.agg #[.int .u64 0, .int .u64 0, .slice none 0 0], .int .i64 33]) (by simp [results, Try.results36, go_sem, s0, s1, s2]) rfl ?_
  exact ⟨rfl, hb1⟩
theorem lpropose_worn {D : Nat → Prop} {w : World} {b0 N : Nat} {ko lo : Option Nat} {A : LS} (h : LeaR w D b0 ko lo N A) {sv : Value} (hst : A.stage = 2) (hw : A.next = 18446744073709551615) :
    Calls Try.prog 36 #[.pointer (some ⟨b0, 0, none⟩), sv] w fun e w' => e = .returned (.tuple #[.agg #[.int .u64 0, .int .u64 0, .slice none 0 0], .int .i64 37]) ∧ Below w.heap.size w w' := by
  have hb1 := (Below.refl w.heap.size w).alloc (Nat.le_refl _) (.cells #[.int .u64 0, .int .u64 0, .slice none 0 0] 39)
  obtain ⟨⟨c0, c1, c2, c3, c4, _⟩, _⟩ := (h.below hb1 (Nat.le_refl _)).cell
  have hb : (A.stage != 2) = false := by simp [hst]
  have hn : (A.next == 18446744073709551615) = true := by rw [beq_iff_eq]; exact hw
  clear h hst hw
  go_enter Try.func36, Try.ntmps36
  go_wp2
  have hk := heap_alloc_new w (.cells #[.int .u64 0, .int .u64 0, .slice none 0 0] 39)
  obtain ⟨W4, HW4⟩ : ∃ x, x = w.alloc (.cells #[.int .u64 0, .int .u64 0, .slice none 0 0] 39) := ⟨_, rfl⟩
  rw [← HW4] at hk hb1 ⊢
  have s0 : W4.cell? ⟨w.heap.size, 0, none⟩ = some (.int .u64 0) := World.news_of_block hk 0 _ rfl
  have s1 : W4.cell? ⟨w.heap.size, 1, none⟩ = some (.int .u64 0) := World.news_of_block hk 1 _ rfl
  have s2 : W4.cell? ⟨w.heap.size, 2, none⟩ = some (.slice none 0 0) := World.news_of_block hk 2 _ rfl
  refine bodyPost_ret (v := .tuple #[.agg #[.int .u64 0, .int .u64 0, .slice none 0 0], .int .i64 37]) (by simp [results, Try.results36, go_sem, s0, s1, s2]) rfl ?_
  exact ⟨rfl, hb1⟩
end Go.Proofs.Ytjdjfhioobhcjaa
