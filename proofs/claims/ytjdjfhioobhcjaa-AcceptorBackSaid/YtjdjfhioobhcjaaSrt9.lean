/-
  The library's sort at numbers of 64 bits without sign: few numbers tried in place.
-/
import Derived.Test.YtjdjfhioobhcjaaSrt8
namespace Go.Proofs.Ytjdjfhioobhcjaa
open Go.ChangeShapes Go.WideShapes Go.ChangeAt Go.RowKit Go.Sort
set_option maxRecDepth 100000

theorem partial_fst (d : Array Int) (a b : Nat) (h50 : b - a < 50) : (Sort.partialInsertionSort ltInt d a b).1 = d := by
  unfold Sort.partialInsertionSort
  by_cases hk : scanSorted ltInt d b (a + 1) = b
  · rw [show (5 : Nat) = 5 - 0 from rfl, pi_true ltInt a b 0 (a + 1) d (by omega) hk]
  · rw [show (5 : Nat) = 5 - 0 from rfl, pi_short ltInt a b 0 (a + 1) d (by omega) hk h50]
theorem partial_snd (d : Array Int) (a b : Nat) (h50 : b - a < 50) : (Sort.partialInsertionSort ltInt d a b).2 = decide (scanSorted ltInt d b (a + 1) = b) := by
  unfold Sort.partialInsertionSort
  by_cases hk : scanSorted ltInt d b (a + 1) = b
  · rw [show (5 : Nat) = 5 - 0 from rfl, pi_true ltInt a b 0 (a + 1) d (by omega) hk]; simp [hk]
  · rw [show (5 : Nat) = 5 - 0 from rfl, pi_short ltInt a b 0 (a + 1) d (by omega) hk h50]; simp [hk]

set_option maxHeartbeats 4000000 in
theorem partial_u {w : World} {k : Nat} {d : Array Int} {rest : List Value} (h : RowU w k d rest) (cap a b : Nat) (hab : a + 12 < b) (hb : b ≤ d.size) (hsz : d.size < 50) :
    Calls Try.prog 99 #[.slice (some ⟨k, 0, none⟩) d.size cap, .int .i64 a, .int .i64 b] w fun e w' => e = .returned (.bool (Sort.partialInsertionSort ltInt d a b).2) ∧ Drew w w' := by
  have H := Lib.hid h
  clear h
  have HS := Lib.hid (partial_snd d a b (by omega))
  have hbi : (b : Int) - (a : Int) < 50 := by omega
  have hbw : IntKind.i64.wrap ((b : Int) - (a : Int)) = (b : Int) - (a : Int) := IntWalk.i64_in _ (by omega)
  have haw : IntKind.i64.wrap ((a : Int) + 1) = (a : Int) + 1 := IntWalk.i64_in _ (by omega)
  go_enter Try.func99, Try.ntmps99
  go_wp2_with fail
  go_loopw [7, 8] (fun vi vj wr => vi = .int .i64 ((a : Int) + 1) ∧ vj = .int .i64 0 ∧ Drew w wr) (fun _ _ _ => 0)
  case atStart => exact ⟨rfl, rfl, Drew.refl _⟩
  case round =>
    obtain ⟨rfl, rfl, hD⟩ := hrel
    have HD := Lib.hid hD
    clear hD
    go_wp2_with fail
    go_loopw [7] (fun vi wr2 => ∃ i : Nat, vi = .int .i64 i ∧ a < i ∧ i ≤ b ∧ scanSorted ltInt d b i = scanSorted ltInt d b (a + 1) ∧ Drew w wr2) (fun vi _ => b - (intOf vi).toNat)
    case atStart => exact ⟨a + 1, rfl, by omega, by omega, rfl, HD.out⟩
    case round =>
      obtain ⟨i, rfl, hai, hib, hsc, hD⟩ := hrel
      have HD2 := Lib.hid hD
      have HSc := Lib.hid hsc
      have HR : Hid (RowU wr k d rest) := Lib.hid (by obtain ⟨n, rfl⟩ := hD; exact H.out)
      clear hD hsc
      by_cases hlt : i < b
      · have hlti : (i : Int) < (b : Int) := by omega
        obtain ⟨i', rfl⟩ : ∃ i', i = i' + 1 := ⟨i - 1, by omega⟩
        obtain ⟨x, hx⟩ : ∃ x, x = d[i' + 1]! := ⟨_, rfl⟩
        obtain ⟨y, hy⟩ : ∃ x, x = d[i']! := ⟨_, rfl⟩
        obtain ⟨cx, fx⟩ := HR.out.cell (i := i' + 1) (by omega)
        obtain ⟨cy, fy⟩ := HR.out.cell (i := i') (by omega)
        rw [← hx] at cx
        rw [← hy] at cy
        have HX := Lib.hid hx
        have HY := Lib.hid hy
        clear hx hy
        obtain ⟨xw, x0, xs, xn⟩ := idx (e := (i' : Int) + 1) (n := i' + 1) (s := d.size) (by omega) (by omega) (by omega)
        obtain ⟨yw, y0, ys, yn⟩ := idx (e := (i' : Int)) (n := i') (s := d.size) (by omega) (by omega) (by omega)
        have hwr2 : IntKind.i64.wrap ((i' : Int) + 1 - 1) = (i' : Int) := by rw [Int.add_sub_cancel]; exact yw
        have hlt2 : (i' : Int) + 1 < (b : Int) := by omega
        have hiw2 : IntKind.i64.wrap ((i' : Int) + 1 + 1) = (i' : Int) + 1 + 1 := IntWalk.i64_in _ (by omega)
        go_wp2_with fail
        go_quiet (first | (go_at_call 100; exact quiet_same (less_u _ _ _)) | fail)
        cases hl : ltInt x y
        · have HL := Lib.hid hl
          clear hl
          go_wp2_with fail
          go_roundw
          case rel => exact ⟨i' + 2, by first | rfl | go_num, by omega, by omega, (by rw [← HSc.out]; exact (scanSorted_go ltInt d b (i' + 1) hlt (by rw [Nat.add_sub_cancel, ← HX.out, ← HY.out]; exact HL.out)).symm), HD2.out.drewN _⟩
          case measure => (simp [intOf]; try omega)
        · have hk : scanSorted ltInt d b (a + 1) = i' + 1 := by rw [← HSc.out]; exact scanSorted_stop ltInt d b (i' + 1) (Or.inr (by rw [Nat.add_sub_cancel, ← HX.out, ← HY.out]; exact hl))
          have HKk := Lib.hid hk
          have hne : ((i' : Int) + 1 == (b : Int)) = false := by rw [beq_eq_false_iff_ne]; omega
          have hne2 : ¬ i' + 1 = b := by omega
          clear hl hk
          go_wp2_with fail
          go_returns
          rw [HS.out, HKk.out]
          exact ⟨by simp [hne2], HD2.out.drewN _⟩
      · have hib2 : i = b := by omega
        subst hib2
        have hk : scanSorted ltInt d i (a + 1) = i := by rw [← HSc.out]; exact scanSorted_stop ltInt d i i (Or.inl hlt)
        have HKk := Lib.hid hk
        have hlti : ¬ ((i : Int) < (i : Int)) := by omega
        clear hk
        go_wp2_with fail
        go_quiet (fail)
        go_wp2_with fail
        go_returns
        rw [HS.out, HKk.out]
        exact ⟨by simp, HD2.out.drewN _⟩
end Go.Proofs.Ytjdjfhioobhcjaa
