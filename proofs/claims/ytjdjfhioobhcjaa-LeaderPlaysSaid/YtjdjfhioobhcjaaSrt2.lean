/-
  The library's sort at numbers of 64 bits without sign: the heap sort, a range turned about.
-/
import Derived.Test.YtjdjfhioobhcjaaSrt
import Derived.Sort.WalkB3
namespace Go.Proofs.Ytjdjfhioobhcjaa
open Go.ChangeShapes Go.WideShapes Go.ChangeAt Go.RowKit Go.Sort
set_option maxRecDepth 100000

/-- An index as the walk reckons it. -/
theorem idx {e : Int} {n s : Nat} (h : e = n) (hs : n < s) (hz : s < 1000000000000) : IntKind.i64.wrap e = e ∧ 0 ≤ e ∧ e < (s : Int) ∧ e.toNat = n := ⟨IntWalk.i64_in _ (by omega), by omega, by omega, by omega⟩

set_option maxHeartbeats 4000000 in
theorem sift_u {w : World} {k : Nat} {d : Array Int} {rest : List Value} (h : RowU w k d rest) (cap lo hi F : Nat) (hhi : F + hi ≤ d.size) (hlo : lo ≤ d.size) (hsz : d.size < 1000000000000) :
    Calls Try.prog 105 #[.slice (some ⟨k, 0, none⟩) d.size cap, .int .i64 lo, .int .i64 hi, .int .i64 F] w fun e w' => e = .returned (.tuple #[]) ∧ RowU w' k (Sort.siftDown ltInt hi F lo d) rest ∧ Keep (fun x => x = k) w w' := by
  have H := Lib.hid h
  clear h
  go_enter Try.func105, Try.ntmps105
  go_wp2_with fail
  go_loopw [8] (fun v wr => ∃ (r : Nat) (dk : Array Int), v = .int .i64 r ∧ r ≤ d.size ∧ dk.size = d.size ∧ RowU wr k dk rest ∧ Keep (fun x => x = k) w wr ∧ Sort.siftDown ltInt hi F r dk = Sort.siftDown ltInt hi F lo d) (fun v _ => hi - (intOf v).toNat)
  case atStart => exact ⟨lo, d, rfl, hlo, rfl, H.out, Keep.refl _ _, rfl⟩
  case round =>
    obtain ⟨r, dk, rfl, hr, hsk, hR, hK, hO⟩ := hrel
    have HR := Lib.hid hR
    have HK := Lib.hid hK
    have HO := Lib.hid hO
    clear hR hK hO
    have hw2 : IntKind.i64.wrap (2 * (r : Int)) = 2 * (r : Int) := IntWalk.i64_in _ (by omega)
    have hw3 : IntKind.i64.wrap (2 * (r : Int) + 1) = 2 * (r : Int) + 1 := IntWalk.i64_in _ (by omega)
    by_cases hc : hi ≤ 2 * r + 1
    · have hci : (hi : Int) ≤ 2 * (r : Int) + 1 := by omega
      go_wp2_with fail
      first | go_end0 | go_returns
      refine ⟨rfl, ?_, HK.out⟩
      rw [← HO.out, sd_end _ _ hc]
      exact HR.out
    · have hci : ¬ ((hi : Int) ≤ 2 * (r : Int) + 1) := by omega
      obtain ⟨x, hx⟩ : ∃ x, x = dk[F + r]! := ⟨_, rfl⟩
      obtain ⟨cr, fr⟩ := HR.out.cell (i := F + r) (by omega)
      rw [← hx] at cr
      have HX := Lib.hid hx
      clear hx
      obtain ⟨pw, p0, ps, pn⟩ := idx (e := (F : Int) + (r : Int)) (n := F + r) (s := d.size) (by omega) (by omega) hsz
      obtain ⟨qw, q0, qs, qn⟩ := idx (e := (F : Int) + (2 * (r : Int) + 1)) (n := F + (2 * r + 1)) (s := d.size) (by omega) (by omega) hsz
      obtain ⟨z1, hz1⟩ : ∃ x, x = dk[F + (2 * r + 1)]! := ⟨_, rfl⟩
      obtain ⟨cq, fq⟩ := HR.out.cell (i := F + (2 * r + 1)) (by omega)
      rw [← hz1] at cq
      have HZ1 := Lib.hid hz1
      clear hz1
      by_cases hc2 : 2 * r + 2 < hi
      · have hci2 : 2 * (r : Int) + 1 + 1 < (hi : Int) := by omega
        have hw4 : IntKind.i64.wrap (2 * (r : Int) + 1 + 1) = 2 * (r : Int) + 1 + 1 := IntWalk.i64_in _ (by omega)
        obtain ⟨tw, t0, ts, tn⟩ := idx (e := (F : Int) + (2 * (r : Int) + 1) + 1) (n := F + (2 * r + 2)) (s := d.size) (by omega) (by omega) hsz
        obtain ⟨uw, u0, us, un⟩ := idx (e := (F : Int) + (2 * (r : Int) + 1 + 1)) (n := F + (2 * r + 2)) (s := d.size) (by omega) (by omega) hsz
        obtain ⟨z2, hz2⟩ : ∃ x, x = dk[F + (2 * r + 2)]! := ⟨_, rfl⟩
        obtain ⟨ct, ft⟩ := HR.out.cell (i := F + (2 * r + 2)) (by omega)
        rw [← hz2] at ct
        have HZ2 := Lib.hid hz2
        clear hz2
        go_wp2_with fail
        go_quiet (first | (go_at_call 100; exact quiet_same (less_u _ _ _)) | fail)
        cases hl1 : ltInt z1 z2
        · have HL1 := Lib.hid hl1
          clear hl1
          go_wp2_with fail
          go_quiet (first | (go_at_call 100; first | exact quiet_same (less_u _ _ _) | exact quiet_same2 (less_u _ _ _)) | fail)
          cases hl : ltInt x z1
          · have HL := Lib.hid hl
            clear hl
            go_wp2_with fail
            first | go_end0 | go_returns
            refine ⟨rfl, ?_, by first | exact HK.out.drewN _ | exact (HK.out.drewN _).drewN _⟩
            rw [← HO.out, sd_left_stop (hi := hi) (F := F) (root := r) ltInt dk (by omega) (fun _ => by rw [← HZ1.out, ← HZ2.out]; exact HL1.out) (by rw [← HX.out, ← HZ1.out]; exact HL.out)]
            exact HR.out
          · have HL := Lib.hid hl
            clear hl
            go_wp2_with fail
            go_region
            all_goals go_wp2
            go_roundw
            case rel => exact ⟨2 * r + 1, swp dk (F + r) (F + (2 * r + 1)), by first | rfl | go_num, by omega, by rw [size_swp]; exact hsk, (by
              have := HR.out.swap (i := F + r) (j := F + (2 * r + 1)) (by omega) (by omega)
              rw [← HX.out, ← HZ1.out] at this
              exact this), by first | exact (keep_swap HK.out _ _ _ _).drewN _ | exact ((keep_swap HK.out _ _ _ _).drewN _).drewN _, (by rw [← HO.out]; exact (sd_left_go (hi := hi) (F := F) (root := r) ltInt dk (by omega) (fun _ => by rw [← HZ1.out, ← HZ2.out]; exact HL1.out) (by rw [← HX.out, ← HZ1.out]; exact HL.out)).symm)⟩
            case measure => (simp [intOf]; try omega)
        · have HL1 := Lib.hid hl1
          clear hl1
          go_wp2_with fail
          go_quiet (first | (go_at_call 100; first | exact quiet_same (less_u _ _ _) | exact quiet_same2 (less_u _ _ _)) | fail)
          cases hl : ltInt x z2
          · have HL := Lib.hid hl
            clear hl
            go_wp2_with fail
            first | go_end0 | go_returns
            refine ⟨rfl, ?_, by first | exact HK.out.drewN _ | exact (HK.out.drewN _).drewN _⟩
            rw [← HO.out, sd_right_stop (hi := hi) (F := F) (root := r) ltInt dk hc2 (by rw [← HZ1.out, ← HZ2.out]; exact HL1.out) (by rw [← HX.out, ← HZ2.out]; exact HL.out)]
            exact HR.out
          · have HL := Lib.hid hl
            clear hl
            go_wp2_with fail
            go_region
            all_goals go_wp2
            go_roundw
            case rel => exact ⟨2 * r + 2, swp dk (F + r) (F + (2 * r + 2)), by first | rfl | go_num, by omega, by rw [size_swp]; exact hsk, (by
              have := HR.out.swap (i := F + r) (j := F + (2 * r + 2)) (by omega) (by omega)
              rw [← HX.out, ← HZ2.out] at this
              exact this), by first | exact (keep_swap HK.out _ _ _ _).drewN _ | exact ((keep_swap HK.out _ _ _ _).drewN _).drewN _, (by rw [← HO.out]; exact (sd_right_go (hi := hi) (F := F) (root := r) ltInt dk hc2 (by rw [← HZ1.out, ← HZ2.out]; exact HL1.out) (by rw [← HX.out, ← HZ2.out]; exact HL.out)).symm)⟩
            case measure => (simp [intOf]; try omega)
      · have hci2 : ¬ (2 * (r : Int) + 1 + 1 < (hi : Int)) := by omega
        have hci3 : decide (2 * (r : Int) + 1 + 1 < (hi : Int)) = false := decide_eq_false hci2
        have hw4 : IntKind.i64.wrap (2 * (r : Int) + 1 + 1) = 2 * (r : Int) + 1 + 1 := IntWalk.i64_in _ (by omega)
        go_wp2_with fail
        go_quiet (fail)
        go_wp2_with fail
        go_quiet (first | (go_at_call 100; first | exact quiet_same (less_u _ _ _) | exact quiet_same2 (less_u _ _ _)) | fail)
        cases hl : ltInt x z1
        · have HL := Lib.hid hl
          clear hl
          go_wp2_with fail
          first | go_end0 | go_returns
          refine ⟨rfl, ?_, by first | exact HK.out.drewN _ | exact (HK.out.drewN _).drewN _⟩
          rw [← HO.out, sd_left_stop (hi := hi) (F := F) (root := r) ltInt dk (by omega) (fun hh => absurd hh hc2) (by rw [← HX.out, ← HZ1.out]; exact HL.out)]
          exact HR.out
        · have HL := Lib.hid hl
          clear hl
          go_wp2_with fail
          go_region
          all_goals go_wp2
          go_roundw
          case rel => exact ⟨2 * r + 1, swp dk (F + r) (F + (2 * r + 1)), by first | rfl | go_num, by omega, by rw [size_swp]; exact hsk, (by
            have := HR.out.swap (i := F + r) (j := F + (2 * r + 1)) (by omega) (by omega)
            rw [← HX.out, ← HZ1.out] at this
            exact this), by first | exact (keep_swap HK.out _ _ _ _).drewN _ | exact ((keep_swap HK.out _ _ _ _).drewN _).drewN _, (by rw [← HO.out]; exact (sd_left_go (hi := hi) (F := F) (root := r) ltInt dk (by omega) (fun hh => absurd hh hc2) (by rw [← HX.out, ← HZ1.out]; exact HL.out)).symm)⟩
          case measure => (simp [intOf]; try omega)
end Go.Proofs.Ytjdjfhioobhcjaa
