/-
  Contracts: cmp.Compare of numbers, the search in a row of spans.
-/
import Derived.Test.YtabanackdjlcmaaFold
namespace Go.Proofs.Ytabanackdjlcmaa
open Go.ChangeShapes Go.WideShapes Go.ChangeAt Go.RowKit Go.Maps
set_option maxRecDepth 100000

theorem isNaN_any (x : Int) (w : World) : Calls Try.prog 66 #[.int .u64 x] w fun e w' => e = .returned (.bool false) ∧ w = w' := by
  go_enter Try.func66, Try.ntmps66
  go_wp2
  go_ret
  exact ⟨by first | rfl | simp, rfl⟩
def cmpI (x y : Int) : Int := if x < y then -1 else if y < x then 1 else 0
theorem compare_any (x y : Int) (w : World) : Calls Try.prog 49 #[.int .u64 x, .int .u64 y] w fun e w' => e = .returned (.int .i64 (cmpI x y)) ∧ w = w' := by
  have h1 := isNaN_any x w
  have h2 := isNaN_any y w
  have H1 := Lib.hid h1
  have H2 := Lib.hid h2
  clear h1 h2
  by_cases hxy : x < y
  · have e : cmpI x y = -1 := by unfold cmpI; rw [if_pos hxy]
    rw [e]
    clear e
    go_enter Try.func49, Try.ntmps49
    go_wp2_with (go_at_call 66; first | ((with_reducible refine H1.out.mono ?_); rintro e w' ⟨rfl, rfl⟩) | ((with_reducible refine H2.out.mono ?_); rintro e w' ⟨rfl, rfl⟩))
    go_ret
    exact ⟨rfl, rfl⟩
  · by_cases hyx : y < x
    · have e : cmpI x y = 1 := by unfold cmpI; rw [if_neg hxy, if_pos hyx]
      rw [e]
      clear e
      go_enter Try.func49, Try.ntmps49
      go_wp2_with (go_at_call 66; first | ((with_reducible refine H1.out.mono ?_); rintro e w' ⟨rfl, rfl⟩) | ((with_reducible refine H2.out.mono ?_); rintro e w' ⟨rfl, rfl⟩))
      go_ret
      exact ⟨rfl, rfl⟩
    · have e : cmpI x y = 0 := by unfold cmpI; rw [if_neg hxy, if_neg hyx]
      rw [e]
      clear e
      go_enter Try.func49, Try.ntmps49
      go_wp2_with (go_at_call 66; first | ((with_reducible refine H1.out.mono ?_); rintro e w' ⟨rfl, rfl⟩) | ((with_reducible refine H2.out.mono ?_); rintro e w' ⟨rfl, rfl⟩))
      go_ret
      exact ⟨rfl, rfl⟩
abbrev spV (s : Sp) : Value := .agg #[.int .u64 s.pos, .int .i64 s.shard, .int .i64 s.seg, .int .u64 s.off, .int .u64 s.many]
theorem find1_any (s : Sp) (pos : Int) (w : World) : Calls Try.prog 48 #[spV s, .int .u64 pos] w fun e w' => e = .returned (.int .i64 (cmpI s.pos pos)) ∧ Below w.heap.size w w' := by
  obtain ⟨p, sh, sg, off, mn⟩ := s
  have hA := (Below.refl w.heap.size w).alloc (Nat.le_refl _) (.cells #[.int .u64 p, .int .i64 sh, .int .i64 sg, .int .u64 off, .int .u64 mn] 60)
  have HA := Lib.hid hA
  clear hA
  go_enter Try.func48, Try.ntmps48
  go_wp2_with fail
  refine (compare_any p pos _).mono ?_
  rintro e w' ⟨rfl, rfl⟩
  go_wp2_with fail
  go_ret
  exact ⟨rfl, HA.out⟩
end Go.Proofs.Ytabanackdjlcmaa
