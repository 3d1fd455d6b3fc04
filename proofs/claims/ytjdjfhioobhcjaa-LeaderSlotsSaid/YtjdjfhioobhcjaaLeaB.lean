/-
  Package leader: Accepted.
-/
import Derived.Test.YtjdjfhioobhcjaaLeaA
namespace Go.Proofs.Ytjdjfhioobhcjaa
open Go.ChangeShapes Go.WideShapes Go.ChangeAt Go.RowKit Go.Maps
set_option maxRecDepth 100000

theorem lacc_no {D : Nat → Prop} {w : World} {b0 N : Nat} {ko lo : Option Nat} {A : LS} (h : LeaR w D b0 ko lo N A) {node b s : Int} (hno : ¬ (A.stage = 2 ∧ b = A.ballot ∧ 0 ≤ node ∧ node < A.many)) :
    Calls Try.prog 39 #[.pointer (some ⟨b0, 0, none⟩), .int .i64 node, .int .u64 b, .int .u64 s] w fun e w' => e = .returned (.tuple #[.agg #[.int .u64 0, .int .u64 0, .slice none 0 0], .bool false]) ∧ Below w.heap.size w w' := by
  have hb1 := (Below.refl w.heap.size w).alloc (Nat.le_refl _) (.cells #[.int .u64 0, .int .u64 0, .slice none 0 0] 39)
  have HI := Lib.hid (lis_any (h.below hb1 (Nat.le_refl _)) 2 node b)
  have hd : decide (A.stage = 2 ∧ b = A.ballot ∧ 0 ≤ node ∧ node < A.many) = false := decide_eq_false hno
  rw [hd] at HI
  have HB1 := Lib.hid hb1
  clear h hno hd hb1
  go_enter Try.func39, Try.ntmps39
  go_wp2_with fail
  refine HI.out.mono ?_
  rintro e w1 ⟨rfl, rfl⟩
  go_wp2_with fail
  have hk := heap_alloc_new w (.cells #[.int .u64 0, .int .u64 0, .slice none 0 0] 39)
  have hb1 := HB1.out
  obtain ⟨W4, HW4⟩ : ∃ x, x = w.alloc (.cells #[.int .u64 0, .int .u64 0, .slice none 0 0] 39) := ⟨_, rfl⟩
  rw [← HW4] at hk hb1 ⊢
  have s0 : W4.cell? ⟨w.heap.size, 0, none⟩ = some (.int .u64 0) := World.news_of_block hk 0 _ rfl
  have s1 : W4.cell? ⟨w.heap.size, 1, none⟩ = some (.int .u64 0) := World.news_of_block hk 1 _ rfl
  have s2 : W4.cell? ⟨w.heap.size, 2, none⟩ = some (.slice none 0 0) := World.news_of_block hk 2 _ rfl
  refine bodyPost_ret (v := .tuple #[.agg #[.int .u64 0, .int .u64 0, .slice none 0 0], .bool false]) (by simp [results, Try.results39, go_sem, s0, s1, s2]) rfl ?_
  exact ⟨rfl, hb1⟩
set_option maxHeartbeats 1000000 in
theorem lacc_none {D : Nat → Prop} {w : World} {b0 bl N : Nat} {ko : Option Nat} {A : LS} (h : LeaR w D b0 ko (some bl) N A) {node b s : Int} (hyes : A.stage = 2 ∧ b = A.ballot ∧ 0 ≤ node ∧ node < A.many) (us : U1 s) (hn : A.op s = none) :
    Calls Try.prog 39 #[.pointer (some ⟨b0, 0, none⟩), .int .i64 node, .int .u64 b, .int .u64 s] w fun e w' => e = .returned (.tuple #[.agg #[.int .u64 0, .int .u64 0, .slice none 0 0], .bool false]) ∧ Below w.heap.size w w' := by
  have hb1 := (Below.refl w.heap.size w).alloc (Nat.le_refl _) (.cells #[.int .u64 0, .int .u64 0, .slice none 0 0] 39)
  have hR1 := h.below hb1 (Nat.le_refl _)
  have HI := Lib.hid (lis_any hR1 2 node b)
  have hd : decide (A.stage = 2 ∧ b = A.ballot ∧ 0 ≤ node ∧ node < A.many) = true := decide_eq_true hyes
  rw [hd] at HI
  obtain ⟨⟨c0, c1, c2, c3, c4, c5, c6, c7⟩, _⟩ := hR1.cell
  obtain ⟨lo, lc, hlk0, _, hsl2, _⟩ := hR1.lookO (slot := s) us
  have hlk := hlk0 _ rfl
  rw [hn] at hlk
  have e0 : oOr A s = (⟨0, 0, []⟩, fun _ => false) := by unfold oOr; rw [hn]; rfl
  rw [e0] at hlk
  simp only [msk_none, Option.isSome_none] at hlk
  have HB1 := Lib.hid hb1
  clear h hyes hd hb1 hR1 hlk0 hsl2 e0
  go_enter Try.func39, Try.ntmps39
  go_wp2_with fail
  refine HI.out.mono ?_
  rintro e w1 ⟨rfl, rfl⟩
  go_wp2_with fail
  have hk0 := heap_alloc_new w (.cells #[.int .u64 0, .int .u64 0, .slice none 0 0] 39)
  have hb2 := HB1.out.alloc (by simp) (.cells #[.int .u64 0, .int .u64 0, .slice lo 0 lc, .int .u32 0] 127)
  have hk := (Below.heap_alloc (w.alloc (.cells #[.int .u64 0, .int .u64 0, .slice none 0 0] 39)) (.cells #[.int .u64 0, .int .u64 0, .slice lo 0 lc, .int .u32 0] 127) w.heap.size (by simp)).trans hk0
  obtain ⟨W4, HW4⟩ : ∃ x, x = (w.alloc (.cells #[.int .u64 0, .int .u64 0, .slice none 0 0] 39)).alloc (.cells #[.int .u64 0, .int .u64 0, .slice lo 0 lc, .int .u32 0] 127) := ⟨_, rfl⟩
  rw [← HW4] at hk hb2 ⊢
  have s0 : W4.cell? ⟨w.heap.size, 0, none⟩ = some (.int .u64 0) := World.news_of_block hk 0 _ rfl
  have s1 : W4.cell? ⟨w.heap.size, 1, none⟩ = some (.int .u64 0) := World.news_of_block hk 1 _ rfl
  have s2 : W4.cell? ⟨w.heap.size, 2, none⟩ = some (.slice none 0 0) := World.news_of_block hk 2 _ rfl
  refine bodyPost_ret (v := .tuple #[.agg #[.int .u64 0, .int .u64 0, .slice none 0 0], .bool false]) (by simp [results, Try.results39, go_sem, s0, s1, s2]) rfl ?_
  exact ⟨rfl, hb2⟩
end Go.Proofs.Ytjdjfhioobhcjaa
