/-
  Package leader: promises that change nothing; the vote of a majority's note.
-/
import Derived.Test.YtjdjfhioobhcjaaLea3
namespace Go.Proofs.Ytjdjfhioobhcjaa
open Go.ChangeShapes Go.WideShapes Go.ChangeAt Go.RowKit Go.Maps
set_option maxRecDepth 100000

theorem and1_u32 {y : Int} (h0 : 0 ≤ y) (h1 : y < 4294967296) : bits BinOp.and IntKind.u32 y 1 = y % 2 := bits_mask .u32 32 (by decide) (fun n h0 h1 => IntWalk.u32_in n (by constructor <;> omega)) 1 (by decide) y h0 (by omega)
/-- A bit of a set's number. -/
theorem bit_of {f : Nat → Bool} {n : Nat} (hn : n < 32) : bits BinOp.and IntKind.u32 ((msk 32 f : Int) / 2 ^ n) 1 = if f n then 1 else 0 := by
  have hl : msk 32 f < 4294967296 := msk_lt 32 f
  have hbit := msk_bit (n := 32) f hn
  have e1 : (msk 32 f : Int) / 2 ^ n = ((msk 32 f / 2 ^ n : Nat) : Int) := by simp
  have hle : msk 32 f / 2 ^ n ≤ msk 32 f := Nat.div_le_self _ _
  rw [e1]
  generalize msk 32 f / 2 ^ n = y at *
  rw [and1_u32 (by omega) (by omega)]
  split at hbit
  · rename_i h; rw [if_pos h]; omega
  · rename_i h; rw [if_neg h]; omega
theorem lprom_no {D : Nat → Prop} {w : World} {b0 N : Nat} {ko lo : Option Nat} {A : LS} (h : LeaR w D b0 ko lo N A) {node b low : Int} {v : Value} (hno : ¬ (A.stage = 1 ∧ b = A.ballot ∧ 0 ≤ node ∧ node < A.many)) :
    Calls Try.prog 33 #[.pointer (some ⟨b0, 0, none⟩), .int .i64 node, .int .u64 b, .int .u64 low, v] w fun e w' => e = .returned (.tuple #[.slice none 0 0, .bool false]) ∧ w = w' := by
  have HI := Lib.hid (lis_any h 1 node b)
  have hd : decide (A.stage = 1 ∧ b = A.ballot ∧ 0 ≤ node ∧ node < A.many) = false := decide_eq_false hno
  rw [hd] at HI
  clear h hno hd
  go_enter Try.func33, Try.ntmps33
  go_wp2_with fail
  refine HI.out.mono ?_
  rintro e w1 ⟨rfl, rfl⟩
  go_wp2_with fail
  refine bodyPost_ret (v := .tuple #[.slice none 0 0, .bool false]) (by simp [results, Try.results33, go_sem]) rfl ?_
  exact ⟨rfl, rfl⟩
theorem lprom_twice {D : Nat → Prop} {w : World} {b0 N : Nat} {ko lo : Option Nat} {A : LS} (h : LeaR w D b0 ko lo N A) {n : Nat} {b low : Int} {v : Value} (hyes : A.stage = 1 ∧ b = A.ballot ∧ 0 ≤ (n : Int) ∧ (n : Int) < A.many) (hp : A.prom n = true) :
    Calls Try.prog 33 #[.pointer (some ⟨b0, 0, none⟩), .int .i64 n, .int .u64 b, .int .u64 low, v] w fun e w' => e = .returned (.tuple #[.slice none 0 0, .bool false]) ∧ w = w' := by
  have HI := Lib.hid (lis_any h 1 n b)
  have hd : decide (A.stage = 1 ∧ b = A.ballot ∧ 0 ≤ (n : Int) ∧ (n : Int) < A.many) = true := decide_eq_true hyes
  rw [hd] at HI
  have hm := h.many
  have hn32 : n < 32 := by omega
  obtain ⟨⟨c0, c1, c2, c3, c4, c5, c6, c7⟩, _⟩ := h.cell
  have hand := bit_of (f := A.prom) hn32
  rw [if_pos hp] at hand
  clear h hyes hd hp
  generalize msk 32 A.prom = x at *
  go_enter Try.func33, Try.ntmps33
  go_wp2_with fail
  refine HI.out.mono ?_
  rintro e w1 ⟨rfl, rfl⟩
  go_wp2_with fail
  refine bodyPost_ret (v := .tuple #[.slice none 0 0, .bool false]) (by simp [results, Try.results33, go_sem]) rfl ?_
  exact ⟨rfl, rfl⟩
end Go.Proofs.Ytjdjfhioobhcjaa
