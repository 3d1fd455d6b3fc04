/-
  The library's sort at numbers of 64 bits without sign: the pivot.
-/
import Derived.Test.YtgmdedkingampaaGreatLib5
import Derived.Test.YtgmdedkingampaaGreatProg
import Derived.Sort.Defs
import Derived.Sort.LotA
import Derived.Shelf.RegionOpen
import Derived.CellFam
import Derived.Sort.WalkA
import Derived.Sort.WalkB3
import Derived.Sort.WalkD1
set_option linter.unusedVariables false
set_option linter.unusedSimpArgs false
namespace Go.Proofs.YtgmdedkingampaaGreat
open Go.ChangeShapes Go.WideShapes Go.ChangeAt Go.RowKit Go.Sort
set_option maxRecDepth 100000

/-- Block k holds these numbers, then what is left of its room. -/
def RowU (w : World) (k : Nat) (d : Array Int) (rest : List Value) : Prop := w.heap[k]? = some (.cells (d.toList.map (Value.int .u64) ++ rest).toArray 39 (0, 0))
theorem RowU.cell {w : World} {k : Nat} {d : Array Int} {rest : List Value} (h : RowU w k d rest) {i : Nat} (hi : i < d.size) : w.cell? ⟨k, i, none⟩ = some (.int .u64 d[i]!) ∧ w.frozen? ⟨k, i, none⟩ = false := by
  unfold RowU at h
  refine ⟨?_, by simp [World.frozen?, h]⟩
  rw [show (⟨k, i, none⟩ : Addr) = (⟨k, 0, none⟩ : Addr).add i by unfold Addr.add; split <;> simp_all]
  refine World.news_of_block h i _ ?_
  simp only [List.getElem?_append, List.length_map, Array.length_toList, hi, if_true]
  simp [hi]
theorem RowU.lt {w : World} {k : Nat} {d : Array Int} {rest : List Value} (h : RowU w k d rest) : k < w.heap.size := (Array.getElem?_eq_some_iff.1 h).1
theorem RowU.set {w : World} {k : Nat} {d : Array Int} {rest : List Value} (h : RowU w k d rest) {i : Nat} (hi : i < d.size) (x : Int) : RowU (w.setCell ⟨k, i, none⟩ (.int .u64 x)) k (d.setIfInBounds i x) rest := by
  unfold RowU at *
  rw [heap_setCell_same w k i _ _ _ h]
  congr 2
  apply Array.toList_inj.1
  simp only [Array.toList_setIfInBounds, List.setIfInBounds_toArray, List.toList_toArray]
  rw [List.set_append_left _ _ (by simpa using hi), List.map_set]
theorem RowU.keep {S : Nat → Prop} {w w' : World} {k : Nat} {d : Array Int} {rest : List Value} (h : RowU w k d rest) (hk : Keep S w w') (hs : ¬ S k) : RowU w' k d rest := (hk.block k h.lt hs).trans h
theorem RowU.drewN {w : World} {k : Nat} {d : Array Int} {rest : List Value} (h : RowU w k d rest) (n : Nat) : RowU (w.drewN n) k d rest := h
theorem RowU.drew {w : World} {k : Nat} {d : Array Int} {rest : List Value} (h : RowU w k d rest) : RowU w.drew k d rest := h
/-- Two that are exchanged. -/
theorem RowU.swap {w : World} {k : Nat} {d : Array Int} {rest : List Value} (h : RowU w k d rest) {i j : Nat} (hi : i < d.size) (hj : j < d.size) : RowU ((w.setCell ⟨k, i, none⟩ (.int .u64 d[j]!)).setCell ⟨k, j, none⟩ (.int .u64 d[i]!)) k (swp d i j) rest :=
  (h.set hi d[j]!).set (by simpa using hj) d[i]!
theorem keep_swap {w0 w : World} {k : Nat} (h : Keep (fun x => x = k) w0 w) (i j : Nat) (u v : Value) : Keep (fun x => x = k) w0 ((w.setCell ⟨k, i, none⟩ u).setCell ⟨k, j, none⟩ v) := (h.setCell (p := ⟨k, i, none⟩) (Or.inl rfl) u).setCell (p := ⟨k, j, none⟩) (Or.inl rfl) v

/-- A quiet callee behind draws. -/
theorem quiet_same2 {P : Program} {f : FuncId} {args : Array Value} {w : World} {q n : Nat} {v : Value}
    (h : Calls P f args (w.drewN (q + n)) fun e w' => e = .returned v ∧ w.drewN (q + n) = w') : Calls P f args (w.drewN (q + n)) fun e w'' => e = .returned v ∧ ∃ m, w'' = w.drewN (q + m) :=
  h.mono fun _ _ ⟨he, hm⟩ => ⟨he, n, hm.symm⟩
theorem isNaN_u (x : Int) (w : World) : Calls Tryz.prog 160 #[.int .u64 x] w fun e w' => e = .returned (.bool false) ∧ w = w' := by
  go_enter Tryz.func160, Tryz.ntmps160
  go_wp2
  go_ret
  exact ⟨by simp, rfl⟩
theorem less_u (x y : Int) (w : World) : Calls Tryz.prog 148 #[.int .u64 x, .int .u64 y] w fun e w' => e = .returned (.bool (ltInt x y)) ∧ w = w' := by
  go_enter Tryz.func148, Tryz.ntmps148
  go_wp2_with (first | (go_at_call 160; refine (isNaN_u _ _).mono ?_; rintro e w' ⟨rfl, rfl⟩) | fail)
  all_goals
    go_ret
    exact ⟨by simp_all [ltInt], rfl⟩

set_option maxHeartbeats 4000000 in
theorem insort_u {w : World} {k : Nat} {d : Array Int} {rest : List Value} (h : RowU w k d rest) (cap a b : Nat) (hab : a ≤ b) (hb : b ≤ d.size) (hsz : d.size < 1000000000000) :
    Calls Tryz.prog 142 #[.slice (some ⟨k, 0, none⟩) d.size cap, .int .i64 a, .int .i64 b] w fun e w' => e = .returned (.tuple #[]) ∧ RowU w' k (Sort.insertionSort ltInt d a b) rest ∧ Keep (fun x => x = k) w w' := by
  have H := Lib.hid h
  clear h
  go_enter Tryz.func142, Tryz.ntmps142
  go_wp2_with fail
  go_loopw [6] (fun vi wr => ∃ (i : Nat) (dk : Array Int), vi = .int .i64 i ∧ a < i ∧ i ≤ b + 1 ∧ dk.size = d.size ∧ RowU wr k dk rest ∧ Keep (fun x => x = k) w wr ∧ insOuter ltInt a b i dk = insOuter ltInt a b (a + 1) d) (fun vi _ => b + 1 - (intOf vi).toNat)
  case atStart => exact ⟨a + 1, d, by go_num, by omega, by omega, rfl, H.out, Keep.refl _ _, rfl⟩
  case round =>
    obtain ⟨i, dk, rfl, hai, hib, hsk, hR, hK, hO⟩ := hrel
    have HR := Lib.hid hR
    have HK := Lib.hid hK
    have HO := Lib.hid hO
    clear hR hK hO
    by_cases hlt : i < b
    · have hlti : (i : Int) < (b : Int) := by omega
      go_wp2_with fail
      go_loopw [7] (fun vj wr2 => ∃ (j : Nat) (dj : Array Int), vj = .int .i64 j ∧ a ≤ j ∧ j ≤ i ∧ dj.size = d.size ∧ RowU wr2 k dj rest ∧ Keep (fun x => x = k) w wr2 ∧ insInner ltInt a j dj = insInner ltInt a i dk) (fun vj _ => (intOf vj).toNat)
      case atStart => exact ⟨i, dk, rfl, by omega, by omega, hsk, HR.out, HK.out, rfl⟩
      case round =>
        obtain ⟨j, dj, rfl, haj, hji, hsj, hRj, hKj, hI⟩ := hrel
        have HRj := Lib.hid hRj
        have HKj := Lib.hid hKj
        have HI := Lib.hid hI
        clear hRj hKj hI
        by_cases hja : a < j
        · obtain ⟨x, hx⟩ : ∃ x, x = dj[j]! := ⟨_, rfl⟩
          obtain ⟨y, hy⟩ : ∃ y, y = dj[j - 1]! := ⟨_, rfl⟩
          obtain ⟨j', rfl⟩ : ∃ j', j = j' + 1 := ⟨j - 1, by omega⟩
          rw [Nat.add_sub_cancel] at hy
          obtain ⟨c1, f1⟩ := HRj.out.cell (i := j' + 1) (by omega)
          obtain ⟨c0, f0⟩ := HRj.out.cell (i := j') (by omega)
          rw [← hx] at c1
          rw [← hy] at c0
          have HX := Lib.hid hx
          have HY := Lib.hid hy
          have hwr : IntKind.i64.wrap (j' : Int) = (j' : Int) := IntWalk.i64_in _ (by omega)
          have hja1 : (a : Int) < ((j' + 1 : Nat) : Int) := by omega
          have hjb1 : ((j' + 1 : Nat) : Int) < (d.size : Int) := by omega
          have hjb0 : (j' : Int) < (d.size : Int) := by omega
          have hja2 : (a : Int) < (j' : Int) + 1 := by omega
          have hjb2 : (j' : Int) + 1 < (d.size : Int) := by omega
          have hz1 : (0 : Int) ≤ (j' : Int) + 1 := by omega
          have hz0 : (0 : Int) ≤ (j' : Int) := by omega
          have hn1 : ((j' : Int) + 1).toNat = j' + 1 := by omega
          have hn0 : (j' : Int).toNat = j' := by omega
          have hwr2 : IntKind.i64.wrap ((j' : Int) + 1 - 1) = (j' : Int) := by rw [Int.add_sub_cancel]; exact hwr
          clear hx hy
          go_wp2_with fail
          go_quiet (first | (go_at_call 148; exact quiet_same (less_u _ _ _)) | fail)
          cases hl : ltInt x y
          · have HL := Lib.hid hl
            go_wp2_with fail
            go_roundw
            case rel => exact ⟨i + 1, dj, by go_num, by omega, by omega, hsj, HRj.out.drewN _, HKj.out.drewN _, by
              rw [← HO.out, insOuter_go _ _ _ _ _ hlt, ← HI.out, insInner_stop _ _ _ _ (Or.inr (by rw [Nat.add_sub_cancel, ← HX.out, ← HY.out]; exact HL.out))]⟩
            case measure => (simp [intOf]; try omega)
          · have HL := Lib.hid hl
            clear hl
            go_wp2_with fail
            go_region
            all_goals go_wp2
            go_roundw
            case rel => exact ⟨j', swp dj (j' + 1) j', by go_num, by omega, by omega, by rw [size_swp]; exact hsj, (by
              have := HRj.out.swap (i := j' + 1) (j := j') (by omega) (by omega)
              rw [← HX.out, ← HY.out] at this
              exact this), (keep_swap HKj.out _ _ _ _).drewN _, (by
              rw [← HI.out, insInner_go ltInt a (j' + 1) dj hja (by rw [Nat.add_sub_cancel, ← HX.out, ← HY.out]; exact HL.out)]
              rfl)⟩
            case measure => (simp [intOf]; try omega)
        · have hja3 : ¬ ((a : Int) < (j : Int)) := by omega
          have hja4 : decide ((a : Int) < (j : Int)) = false := decide_eq_false hja3
          go_wp2_with fail
          go_quiet (fail)
          go_wp2_with fail
          go_roundw
          case rel => exact ⟨i + 1, dj, by go_num, by omega, by omega, hsj, HRj.out.drewN _, HKj.out.drewN _, by
            rw [← HO.out, insOuter_go _ _ _ _ _ hlt, ← HI.out, insInner_stop _ _ _ _ (Or.inl (by omega))]⟩
          case measure => simp [intOf]; omega
    · have hlti : ¬ ((i : Int) < (b : Int)) := by omega
      go_wp2_with fail
      go_end0
      exact ⟨rfl, by unfold Sort.insertionSort; rw [← HO.out, insOuter_stop _ _ _ _ _ hlt]; exact HR.out, HK.out⟩
end Go.Proofs.YtgmdedkingampaaGreat

namespace Go.Proofs.YtgmdedkingampaaGreat
open Go.ChangeShapes Go.WideShapes Go.ChangeAt Go.RowKit Go.Sort
set_option maxRecDepth 100000

/-- An index as the walk reckons it. -/
theorem idx {e : Int} {n s : Nat} (h : e = n) (hs : n < s) (hz : s < 1000000000000) : IntKind.i64.wrap e = e ∧ 0 ≤ e ∧ e < (s : Int) ∧ e.toNat = n := ⟨IntWalk.i64_in _ (by omega), by omega, by omega, by omega⟩

set_option maxHeartbeats 4000000 in
theorem sift_u {w : World} {k : Nat} {d : Array Int} {rest : List Value} (h : RowU w k d rest) (cap lo hi F : Nat) (hhi : F + hi ≤ d.size) (hlo : lo ≤ d.size) (hsz : d.size < 1000000000000) :
    Calls Tryz.prog 155 #[.slice (some ⟨k, 0, none⟩) d.size cap, .int .i64 lo, .int .i64 hi, .int .i64 F] w fun e w' => e = .returned (.tuple #[]) ∧ RowU w' k (Sort.siftDown ltInt hi F lo d) rest ∧ Keep (fun x => x = k) w w' := by
  have H := Lib.hid h
  clear h
  go_enter Tryz.func155, Tryz.ntmps155
  go_wp2_with fail
  go_loopw [8] (fun v wr => ∃ (r : Nat) (dk : Array Int), v = .int .i64 r ∧ r ≤ d.size ∧ dk.size = d.size ∧ RowU wr k dk rest ∧ Keep (fun x => x = k) w wr ∧ Sort.siftDown ltInt hi F r dk = Sort.siftDown ltInt hi F lo d) (fun v _ => hi - (intOf v).toNat)
  case atStart => exact ⟨lo, d, rfl, hlo, rfl, H.out, Keep.refl _ _, rfl⟩
  case round =>
    obtain ⟨r, dk, rfl, hr, hsk, hR, hK, hO⟩ := hrel
    have HR := Lib.hid hR
    have HK := Lib.hid hK
    have HO := Lib.hid hO
    clear hR hK hO
    have hw2 : IntKind.i64.wrap (2 * (r : Int)) = 2 * (r : Int) := IntWalk.i64_in _ (by omega)
    have hw3 : IntKind.i64.wrap (2 * (r : Int) + 1) = 2 * (r : Int) + 1 := IntWalk.i64_in _ (by omega)
    by_cases hc : hi ≤ 2 * r + 1
    · have hci : (hi : Int) ≤ 2 * (r : Int) + 1 := by omega
      go_wp2_with fail
      first | go_end0 | go_returns
      refine ⟨rfl, ?_, HK.out⟩
      rw [← HO.out, sd_end _ _ hc]
      exact HR.out
    · have hci : ¬ ((hi : Int) ≤ 2 * (r : Int) + 1) := by omega
      obtain ⟨x, hx⟩ : ∃ x, x = dk[F + r]! := ⟨_, rfl⟩
      obtain ⟨cr, fr⟩ := HR.out.cell (i := F + r) (by omega)
      rw [← hx] at cr
      have HX := Lib.hid hx
      clear hx
      obtain ⟨pw, p0, ps, pn⟩ := idx (e := (F : Int) + (r : Int)) (n := F + r) (s := d.size) (by omega) (by omega) hsz
      obtain ⟨qw, q0, qs, qn⟩ := idx (e := (F : Int) + (2 * (r : Int) + 1)) (n := F + (2 * r + 1)) (s := d.size) (by omega) (by omega) hsz
      obtain ⟨z1, hz1⟩ : ∃ x, x = dk[F + (2 * r + 1)]! := ⟨_, rfl⟩
      obtain ⟨cq, fq⟩ := HR.out.cell (i := F + (2 * r + 1)) (by omega)
      rw [← hz1] at cq
      have HZ1 := Lib.hid hz1
      clear hz1
      by_cases hc2 : 2 * r + 2 < hi
      · have hci2 : 2 * (r : Int) + 1 + 1 < (hi : Int) := by omega
        have hw4 : IntKind.i64.wrap (2 * (r : Int) + 1 + 1) = 2 * (r : Int) + 1 + 1 := IntWalk.i64_in _ (by omega)
        obtain ⟨tw, t0, ts, tn⟩ := idx (e := (F : Int) + (2 * (r : Int) + 1) + 1) (n := F + (2 * r + 2)) (s := d.size) (by omega) (by omega) hsz
        obtain ⟨uw, u0, us, un⟩ := idx (e := (F : Int) + (2 * (r : Int) + 1 + 1)) (n := F + (2 * r + 2)) (s := d.size) (by omega) (by omega) hsz
        obtain ⟨z2, hz2⟩ : ∃ x, x = dk[F + (2 * r + 2)]! := ⟨_, rfl⟩
        obtain ⟨ct, ft⟩ := HR.out.cell (i := F + (2 * r + 2)) (by omega)
        rw [← hz2] at ct
        have HZ2 := Lib.hid hz2
        clear hz2
        go_wp2_with fail
        go_quiet (first | (go_at_call 148; exact quiet_same (less_u _ _ _)) | fail)
        cases hl1 : ltInt z1 z2
        · have HL1 := Lib.hid hl1
          clear hl1
          go_wp2_with fail
          go_quiet (first | (go_at_call 148; first | exact quiet_same (less_u _ _ _) | exact quiet_same2 (less_u _ _ _)) | fail)
          cases hl : ltInt x z1
          · have HL := Lib.hid hl
            clear hl
            go_wp2_with fail
            first | go_end0 | go_returns
            refine ⟨rfl, ?_, by first | exact HK.out.drewN _ | exact (HK.out.drewN _).drewN _⟩
            rw [← HO.out, sd_left_stop (hi := hi) (F := F) (root := r) ltInt dk (by omega) (fun _ => by rw [← HZ1.out, ← HZ2.out]; exact HL1.out) (by rw [← HX.out, ← HZ1.out]; exact HL.out)]
            exact HR.out
          · have HL := Lib.hid hl
            clear hl
            go_wp2_with fail
            go_region
            all_goals go_wp2
            go_roundw
            case rel => exact ⟨2 * r + 1, swp dk (F + r) (F + (2 * r + 1)), by first | rfl | go_num, by omega, by rw [size_swp]; exact hsk, (by
              have := HR.out.swap (i := F + r) (j := F + (2 * r + 1)) (by omega) (by omega)
              rw [← HX.out, ← HZ1.out] at this
              exact this), by first | exact (keep_swap HK.out _ _ _ _).drewN _ | exact ((keep_swap HK.out _ _ _ _).drewN _).drewN _, (by rw [← HO.out]; exact (sd_left_go (hi := hi) (F := F) (root := r) ltInt dk (by omega) (fun _ => by rw [← HZ1.out, ← HZ2.out]; exact HL1.out) (by rw [← HX.out, ← HZ1.out]; exact HL.out)).symm)⟩
            case measure => (simp [intOf]; try omega)
        · have HL1 := Lib.hid hl1
          clear hl1
          go_wp2_with fail
          go_quiet (first | (go_at_call 148; first | exact quiet_same (less_u _ _ _) | exact quiet_same2 (less_u _ _ _)) | fail)
          cases hl : ltInt x z2
          · have HL := Lib.hid hl
            clear hl
            go_wp2_with fail
            first | go_end0 | go_returns
            refine ⟨rfl, ?_, by first | exact HK.out.drewN _ | exact (HK.out.drewN _).drewN _⟩
            rw [← HO.out, sd_right_stop (hi := hi) (F := F) (root := r) ltInt dk hc2 (by rw [← HZ1.out, ← HZ2.out]; exact HL1.out) (by rw [← HX.out, ← HZ2.out]; exact HL.out)]
            exact HR.out
          · have HL := Lib.hid hl
            clear hl
            go_wp2_with fail
            go_region
            all_goals go_wp2
            go_roundw
            case rel => exact ⟨2 * r + 2, swp dk (F + r) (F + (2 * r + 2)), by first | rfl | go_num, by omega, by rw [size_swp]; exact hsk, (by
              have := HR.out.swap (i := F + r) (j := F + (2 * r + 2)) (by omega) (by omega)
              rw [← HX.out, ← HZ2.out] at this
              exact this), by first | exact (keep_swap HK.out _ _ _ _).drewN _ | exact ((keep_swap HK.out _ _ _ _).drewN _).drewN _, (by rw [← HO.out]; exact (sd_right_go (hi := hi) (F := F) (root := r) ltInt dk hc2 (by rw [← HZ1.out, ← HZ2.out]; exact HL1.out) (by rw [← HX.out, ← HZ2.out]; exact HL.out)).symm)⟩
            case measure => (simp [intOf]; try omega)
      · have hci2 : ¬ (2 * (r : Int) + 1 + 1 < (hi : Int)) := by omega
        have hci3 : decide (2 * (r : Int) + 1 + 1 < (hi : Int)) = false := decide_eq_false hci2
        have hw4 : IntKind.i64.wrap (2 * (r : Int) + 1 + 1) = 2 * (r : Int) + 1 + 1 := IntWalk.i64_in _ (by omega)
        go_wp2_with fail
        go_quiet (fail)
        go_wp2_with fail
        go_quiet (first | (go_at_call 148; first | exact quiet_same (less_u _ _ _) | exact quiet_same2 (less_u _ _ _)) | fail)
        cases hl : ltInt x z1
        · have HL := Lib.hid hl
          clear hl
          go_wp2_with fail
          first | go_end0 | go_returns
          refine ⟨rfl, ?_, by first | exact HK.out.drewN _ | exact (HK.out.drewN _).drewN _⟩
          rw [← HO.out, sd_left_stop (hi := hi) (F := F) (root := r) ltInt dk (by omega) (fun hh => absurd hh hc2) (by rw [← HX.out, ← HZ1.out]; exact HL.out)]
          exact HR.out
        · have HL := Lib.hid hl
          clear hl
          go_wp2_with fail
          go_region
          all_goals go_wp2
          go_roundw
          case rel => exact ⟨2 * r + 1, swp dk (F + r) (F + (2 * r + 1)), by first | rfl | go_num, by omega, by rw [size_swp]; exact hsk, (by
            have := HR.out.swap (i := F + r) (j := F + (2 * r + 1)) (by omega) (by omega)
            rw [← HX.out, ← HZ1.out] at this
            exact this), by first | exact (keep_swap HK.out _ _ _ _).drewN _ | exact ((keep_swap HK.out _ _ _ _).drewN _).drewN _, (by rw [← HO.out]; exact (sd_left_go (hi := hi) (F := F) (root := r) ltInt dk (by omega) (fun hh => absurd hh hc2) (by rw [← HX.out, ← HZ1.out]; exact HL.out)).symm)⟩
          case measure => (simp [intOf]; try omega)
end Go.Proofs.YtgmdedkingampaaGreat

namespace Go.Proofs.YtgmdedkingampaaGreat
open Go.ChangeShapes Go.WideShapes Go.ChangeAt Go.RowKit Go.Sort
set_option maxRecDepth 100000

/-- A count that goes down to nought: one less than it stands in the loop's variable. -/
def Down (v : Value) (m : Nat) : Prop := (m = 0 ∧ v = .int .i64 (-1)) ∨ ∃ m', m = m' + 1 ∧ v = .int .i64 (m' : Nat)
theorem Down.of {m : Nat} {e : Int} (h : e = (m : Int) - 1) : Down (.int .i64 e) m := by
  cases m with
  | zero => left; exact ⟨rfl, by rw [h]; rfl⟩
  | succ m' => right; exact ⟨m', rfl, by rw [h]; congr 1; omega⟩
theorem Down.int {v : Value} {m : Nat} (h : Down v m) : v = .int .i64 ((m : Int) - 1) := by
  rcases h with ⟨rfl, rfl⟩ | ⟨m', rfl, rfl⟩
  · rfl
  · congr 1; omega
theorem sift_size (hi F root : Nat) (d : Array Int) : (Sort.siftDown ltInt hi F root d).size = d.size := size_siftDown ltInt hi F _ root d (Nat.le_refl _)

theorem sift_n {w : World} {k n : Nat} {d : Array Int} {rest : List Value} (h : RowU w k d rest) (hn : d.size = n) (cap lo hi F : Nat) (hhi : F + hi ≤ n) (hlo : lo ≤ n) (hsz : n < 1000000000000) :
    Calls Tryz.prog 155 #[.slice (some ⟨k, 0, none⟩) n cap, .int .i64 lo, .int .i64 hi, .int .i64 F] w fun e w' => e = .returned (.tuple #[]) ∧ RowU w' k (Sort.siftDown ltInt hi F lo d) rest ∧ Keep (fun x => x = k) w w' := by
  subst hn; exact sift_u h cap lo hi F hhi hlo hsz

set_option maxHeartbeats 4000000 in
theorem heap_u {w : World} {k : Nat} {d : Array Int} {rest : List Value} (h : RowU w k d rest) (cap a b : Nat) (hab : a ≤ b) (hb : b ≤ d.size) (hsz : d.size < 1000000000000) :
    Calls Tryz.prog 143 #[.slice (some ⟨k, 0, none⟩) d.size cap, .int .i64 a, .int .i64 b] w fun e w' => e = .returned (.tuple #[]) ∧ RowU w' k (Sort.heapSort ltInt d a b) rest ∧ Keep (fun x => x = k) w w' := by
  have H := Lib.hid h
  clear h
  obtain ⟨hi, hhi⟩ : ∃ hi, hi = b - a := ⟨_, rfl⟩
  have hbi : (b : Int) - (a : Int) = (hi : Int) := by omega
  have hw1 : IntKind.i64.wrap ((b : Int) - (a : Int)) = (hi : Int) := by rw [hbi]; exact IntWalk.i64_in _ (by omega)
  have hw1' : IntKind.i64.wrap (hi : Int) = (hi : Int) := IntWalk.i64_in _ (by omega)
  have hw2 : IntKind.i64.wrap ((hi : Int) - 1) = (hi : Int) - 1 := IntWalk.i64_in _ (by omega)
  have hq : ((hi : Int) - 1).tdiv 2 = (((hi - 1) / 2 + 1 : Nat) : Int) - 1 := by rw [hhi, ← half_start hab, hbi, hhi]
  have HQ := Lib.hid hq
  have HHi := Lib.hid hhi
  clear hq hhi
  go_enter Tryz.func143, Tryz.ntmps143
  go_wp2_with fail
  go_loopw [9] (fun v wr => ∃ (m : Nat) (dk : Array Int), Down v m ∧ m ≤ (hi - 1) / 2 + 1 ∧ dk.size = d.size ∧ RowU wr k dk rest ∧ Keep (fun x => x = k) w wr ∧ heapBuild ltInt hi a m dk = heapBuild ltInt hi a ((hi - 1) / 2 + 1) d) (fun v _ => (intOf v + 1).toNat)
  case atStart => exact ⟨(hi - 1) / 2 + 1, d, Down.of (by first | exact HQ.out | (have := HQ.out; simp_all)), by omega, rfl, H.out, Keep.refl _ _, rfl⟩
  case round =>
    obtain ⟨m, dk, hv, hm, hsk, hR, hK, hO⟩ := hrel
    have HR := Lib.hid hR
    have HK := Lib.hid hK
    have HO := Lib.hid hO
    clear hR hK hO
    rcases hv with ⟨rfl, rfl⟩ | ⟨m', rfl, rfl⟩
    · have HB : Hid (dk = heapBuild ltInt hi a ((hi - 1) / 2 + 1) d) := Lib.hid HO.out
      clear HO
      go_wp2_with fail
      go_loopw [10] (fun v wr2 => ∃ (m : Nat) (dj : Array Int), Down v m ∧ m ≤ hi ∧ dj.size = d.size ∧ RowU wr2 k dj rest ∧ Keep (fun x => x = k) w wr2 ∧ heapPop ltInt a m dj = heapPop ltInt a hi dk) (fun v _ => (intOf v + 1).toNat)
      case atStart => exact ⟨hi, dk, Down.of rfl, by omega, hsk, HR.out, HK.out, rfl⟩
      case round =>
        obtain ⟨m, dj, hv, hm, hsj, hR, hK, hO⟩ := hrel
        have HRj := Lib.hid hR
        have HKj := Lib.hid hK
        have HOj := Lib.hid hO
        clear hR hK hO HR HK
        rcases hv with ⟨rfl, rfl⟩ | ⟨m', rfl, rfl⟩
        · go_wp2_with fail
          go_end0
          refine ⟨rfl, ?_, HKj.out⟩
          have : Sort.heapSort ltInt d a b = dj := by
            unfold Sort.heapSort
            rw [← HHi.out, ← HB.out, ← HOj.out]; rfl
          rw [this]; exact HRj.out
        · obtain ⟨x, hx⟩ : ∃ x, x = dj[a]! := ⟨_, rfl⟩
          obtain ⟨y, hy⟩ : ∃ y, y = dj[a + m']! := ⟨_, rfl⟩
          obtain ⟨c0, f0⟩ := HRj.out.cell (i := a) (by omega)
          obtain ⟨c1, f1⟩ := HRj.out.cell (i := a + m') (by omega)
          rw [← hx] at c0
          rw [← hy] at c1
          have HX := Lib.hid hx
          have HY := Lib.hid hy
          clear hx hy
          obtain ⟨pw, p0, ps, pn⟩ := idx (e := (a : Int)) (n := a) (s := d.size) rfl (by omega) hsz
          obtain ⟨qw, q0, qs, qn⟩ := idx (e := (a : Int) + (m' : Int)) (n := a + m') (s := d.size) (by omega) (by omega) hsz
          have hm0 : (0 : Int) ≤ (m' : Int) := by omega
          have hmw : IntKind.i64.wrap ((m' : Int) - 1) = (m' : Int) - 1 := IntWalk.i64_in _ (by omega)
          obtain ⟨c2, f2⟩ := (HRj.out.set (i := a) (by omega) y).cell (i := a + m') (by simp; omega)
          generalize (dj.setIfInBounds a y)[a + m']! = y2 at c2
          go_wp2_with fail
          go_region
          all_goals go_wp2_with fail
          have hSw := HRj.out.swap (i := a) (j := a + m') (by omega) (by omega)
          rw [← HX.out, ← HY.out] at hSw
          have HSw := Lib.hid hSw.drew
          have HKw := Lib.hid (keep_swap HKj.out a (a + m') (.int .u64 y) (.int .u64 x)).drew
          clear hSw
          refine (sift_n (d := swp dj a (a + m')) HSw.out (by rw [size_swp]; exact hsj) cap 0 m' a (by omega) (by omega) hsz).mono ?_
          rintro e w5 ⟨rfl, hR5, hK5⟩
          have HR5 := Lib.hid hR5
          have HK5 := Lib.hid (HKw.out.trans hK5)
          clear hR5 hK5
          go_wp2_with fail
          go_roundw
          case rel => exact ⟨m', _, Down.of rfl, by omega, by rw [sift_size, size_swp]; exact hsj, HR5.out, HK5.out, by rw [← HOj.out]; rfl⟩
          case measure => (simp [intOf]; try omega)
    · have hm0 : (0 : Int) ≤ (m' : Int) := by omega
      have hmw : IntKind.i64.wrap ((m' : Int) - 1) = (m' : Int) - 1 := IntWalk.i64_in _ (by omega)
      go_wp2_with fail
      refine (sift_n (d := dk) HR.out hsk cap m' hi a (by omega) (by omega) hsz).mono ?_
      rintro e w5 ⟨rfl, hR5, hK5⟩
      have HR5 := Lib.hid hR5
      have HK5 := Lib.hid (HK.out.trans hK5)
      clear hR5 hK5
      go_wp2_with fail
      go_roundw
      case rel => exact ⟨m', _, Down.of rfl, by omega, by rw [sift_size]; exact hsk, HR5.out, HK5.out, by rw [← HO.out]; rfl⟩
      case measure => (simp [intOf]; try omega)

set_option maxHeartbeats 4000000 in
theorem rev_u {w : World} {k : Nat} {d : Array Int} {rest : List Value} (h : RowU w k d rest) (cap a b : Nat) (hab : a < b) (hb : b ≤ d.size) (hsz : d.size < 1000000000000) :
    Calls Tryz.prog 146 #[.slice (some ⟨k, 0, none⟩) d.size cap, .int .i64 a, .int .i64 b] w fun e w' => e = .returned (.tuple #[]) ∧ RowU w' k (Sort.reverseRange d a b) rest ∧ Keep (fun x => x = k) w w' := by
  have H := Lib.hid h
  clear h
  obtain ⟨b', rfl⟩ : ∃ b', b = b' + 1 := ⟨b - 1, by omega⟩
  have hw1 : IntKind.i64.wrap (b' : Int) = (b' : Int) := IntWalk.i64_in _ (by omega)
  go_enter Tryz.func146, Tryz.ntmps146
  go_wp2_with fail
  go_loopw [6, 7] (fun vi vj wr => ∃ (i j : Nat) (dk : Array Int), vi = .int .i64 i ∧ vj = .int .i64 j ∧ i ≤ d.size ∧ j < d.size ∧ dk.size = d.size ∧ RowU wr k dk rest ∧ Keep (fun x => x = k) w wr ∧ reverseLoop i j dk = reverseLoop a b' d) (fun vi vj _ => (intOf vj).toNat)
  case atStart => exact ⟨a, b', d, rfl, by first | rfl | go_num, by omega, by omega, rfl, H.out, Keep.refl _ _, rfl⟩
  case round =>
    obtain ⟨i, j, dk, rfl, rfl, hi, hj, hsk, hR, hK, hO⟩ := hrel
    have HR := Lib.hid hR
    have HK := Lib.hid hK
    have HO := Lib.hid hO
    clear hR hK hO
    by_cases hij : i < j
    · have hiji : (i : Int) < (j : Int) := by omega
      obtain ⟨x, hx⟩ : ∃ x, x = dk[i]! := ⟨_, rfl⟩
      obtain ⟨y, hy⟩ : ∃ y, y = dk[j]! := ⟨_, rfl⟩
      obtain ⟨c0, f0⟩ := HR.out.cell (i := i) (by omega)
      obtain ⟨c1, f1⟩ := HR.out.cell (i := j) (by omega)
      rw [← hx] at c0
      rw [← hy] at c1
      have HX := Lib.hid hx
      have HY := Lib.hid hy
      clear hx hy
      obtain ⟨pw, p0, ps, pn⟩ := idx (e := (i : Int)) (n := i) (s := d.size) rfl (by omega) hsz
      obtain ⟨qw, q0, qs, qn⟩ := idx (e := (j : Int)) (n := j) (s := d.size) rfl (by omega) hsz
      have hne : ¬ i = j := by omega
      have hne2 : ¬ j = i := by omega
      have hjw : IntKind.i64.wrap ((j : Int) - 1) = (j : Int) - 1 := IntWalk.i64_in _ (by omega)
      go_wp2_with fail
      go_region
      all_goals go_wp2_with fail
      go_roundw
      case rel => exact ⟨i + 1, j - 1, swp dk i j, by go_num, by (congr 1; omega), by omega, by omega, by rw [size_swp]; exact hsk, (by
        have := HR.out.swap (i := i) (j := j) (by omega) (by omega)
        rw [← HX.out, ← HY.out] at this
        exact this.drew), (keep_swap HK.out _ _ _ _).drew, (by rw [← HO.out]; conv => rhs; rw [reverseLoop, if_pos hij])⟩
      case measure => (simp [intOf]; try omega)
    · have hiji : ¬ ((i : Int) < (j : Int)) := by omega
      go_wp2_with fail
      go_end0
      refine ⟨rfl, ?_, HK.out⟩
      have : Sort.reverseRange d a (b' + 1) = dk := by
        unfold Sort.reverseRange
        rw [Nat.add_sub_cancel, ← HO.out, reverseLoop, if_neg hij]
      rw [this]; exact HR.out
end Go.Proofs.YtgmdedkingampaaGreat

namespace Go.Proofs.YtgmdedkingampaaGreat
open Go.ChangeShapes Go.WideShapes Go.ChangeAt Go.RowKit Go.Sort
set_option maxRecDepth 100000

def BoxI (w : World) (b : Nat) (s : Nat) : Prop := w.heap[b]? = some (.cells #[.int .i64 s] 3 (0, 0))
theorem BoxI.cell {w : World} {b s : Nat} (h : BoxI w b s) : w.cell? ⟨b, 0, none⟩ = some (.int .i64 s) ∧ w.frozen? ⟨b, 0, none⟩ = false := by
  unfold BoxI at h; simp [World.cell?, World.frozen?, h]
theorem BoxI.set {w : World} {b s : Nat} (h : BoxI w b s) (t : Nat) : BoxI (w.setCell ⟨b, 0, none⟩ (.int .i64 t)) b t := by
  unfold BoxI at *; simpa using heap_setCell_same w b 0 _ _ (.int .i64 t) h
theorem BoxI.lt {w : World} {b s : Nat} (h : BoxI w b s) : b < w.heap.size := (Array.getElem?_eq_some_iff.1 h).1

set_option maxHeartbeats 1000000 in
theorem order2_u {w : World} {k sb s : Nat} {d : Array Int} {rest : List Value} (h : RowU w k d rest) (hs : BoxI w sb s) (cap a b : Nat) (ha : a < d.size) (hb : b < d.size) (hsz : d.size < 1000000000000) (hs1 : s < 1000) :
    Calls Tryz.prog 163 #[.slice (some ⟨k, 0, none⟩) d.size cap, .int .i64 a, .int .i64 b, .pointer (some ⟨sb, 0, none⟩)] w fun e w' => e = .returned (.tuple #[.int .i64 (order2 ltInt d a b s).1, .int .i64 (order2 ltInt d a b s).2.1]) ∧ BoxI w' sb (order2 ltInt d a b s).2.2 ∧ Keep (fun x => x = sb) w w' := by
  obtain ⟨x, hx⟩ : ∃ x, x = d[a]! := ⟨_, rfl⟩
  obtain ⟨y, hy⟩ : ∃ y, y = d[b]! := ⟨_, rfl⟩
  obtain ⟨c0, f0⟩ := h.cell (i := a) (by omega)
  obtain ⟨c1, f1⟩ := h.cell (i := b) (by omega)
  obtain ⟨cs, fs⟩ := hs.cell
  rw [← hx] at c0
  rw [← hy] at c1
  have ho : order2 ltInt d a b s = if ltInt y x = true then (b, a, s + 1) else (a, b, s) := by rw [hx, hy]; rfl
  have HO := Lib.hid ho
  have HS := Lib.hid hs
  obtain ⟨pw, p0, ps, pn⟩ := idx (e := (a : Int)) (n := a) (s := d.size) rfl (by omega) hsz
  obtain ⟨qw, q0, qs, qn⟩ := idx (e := (b : Int)) (n := b) (s := d.size) rfl (by omega) hsz
  have hw : IntKind.i64.wrap ((s : Int) + 1) = (s : Int) + 1 := IntWalk.i64_in _ (by omega)
  clear hx hy ho h hs
  go_enter Tryz.func163, Tryz.ntmps163
  go_wp2_with fail
  go_quiet (first | (go_at_call 148; exact quiet_same (less_u _ _ _)) | fail)
  cases hl : ltInt y x
  · have HL := Lib.hid hl
    clear hl
    go_wp2
    go_returns
    rw [HO.out, HL.out]
    exact ⟨rfl, HS.out, (Keep.refl _ _).drewN _⟩
  · have HL := Lib.hid hl
    clear hl
    go_wp2
    go_returns
    rw [HO.out, HL.out]
    exact ⟨rfl, HS.out.set (s + 1), Keep.setCell (S := fun x => x = sb) ((Keep.refl _ _).drewN _) (p := ⟨sb, 0, none⟩) (Or.inl rfl) _⟩

set_option maxHeartbeats 1000000 in
theorem median_u {w : World} {k sb s : Nat} {d : Array Int} {rest : List Value} (h : RowU w k d rest) (hs : BoxI w sb s) (hne : k ≠ sb) (cap a b c : Nat) (ha : a < d.size) (hb : b < d.size) (hc : c < d.size) (hsz : d.size < 1000000000000) (hs1 : s < 900) :
    Calls Tryz.prog 159 #[.slice (some ⟨k, 0, none⟩) d.size cap, .int .i64 a, .int .i64 b, .int .i64 c, .pointer (some ⟨sb, 0, none⟩)] w fun e w' => e = .returned (.int .i64 (Sort.median ltInt d a b c s).1) ∧ BoxI w' sb (Sort.median ltInt d a b c s).2 ∧ Keep (fun x => x = sb) w w' := by
  have H := Lib.hid h
  have HS := Lib.hid hs
  clear h hs
  obtain ⟨r1, hr1⟩ : ∃ r, r = order2 ltInt d a b s := ⟨_, rfl⟩
  obtain ⟨r2, hr2⟩ : ∃ r, r = order2 ltInt d r1.2.1 c r1.2.2 := ⟨_, rfl⟩
  obtain ⟨r3, hr3⟩ : ∃ r, r = order2 ltInt d r1.1 r2.1 r2.2.2 := ⟨_, rfl⟩
  have hm : Sort.median ltInt d a b c s = (r3.2.1, r3.2.2) := by unfold Sort.median; simp only [← hr1, ← hr2, ← hr3]
  have l1 := order2_lt d s ha hb
  have s1 := order2_swaps d a b s
  rw [← hr1] at l1 s1
  have l2 := order2_lt d r1.2.2 l1.2 hc
  have s2 := order2_swaps d r1.2.1 c r1.2.2
  rw [← hr2] at l2 s2
  have H1 := Lib.hid hr1
  have H2 := Lib.hid hr2
  have H3 := Lib.hid hr3
  rw [hm]
  clear hr1 hr2 hr3 hm
  go_enter Tryz.func159, Tryz.ntmps159
  go_wp2_with fail
  refine (order2_u H.out HS.out cap a b ha hb hsz (by omega)).mono ?_
  rintro e w1 ⟨rfl, hb1, hk1⟩
  rw [← H1.out] at hb1 ⊢
  have HB1 := Lib.hid hb1
  have HK1 := Lib.hid hk1
  clear hb1 hk1
  go_wp2_with fail
  refine (order2_u (H.out.keep HK1.out hne) HB1.out cap r1.2.1 c l1.2 hc hsz (by omega)).mono ?_
  rintro e w2 ⟨rfl, hb1, hk1⟩
  rw [← H2.out] at hb1 ⊢
  have HB2 := Lib.hid hb1
  have HK2 := Lib.hid (HK1.out.trans hk1)
  clear hb1 hk1
  go_wp2_with fail
  refine (order2_u (H.out.keep HK2.out hne) HB2.out cap r1.1 r2.1 l1.1 l2.1 hsz (by omega)).mono ?_
  rintro e w3 ⟨rfl, hb1, hk1⟩
  rw [← H3.out] at hb1 ⊢
  have HB3 := Lib.hid hb1
  have HK3 := Lib.hid (HK2.out.trans hk1)
  clear hb1 hk1
  go_wp2_with fail
  go_ret
  exact ⟨rfl, HB3.out, HK3.out⟩

theorem median_i {w : World} {k sb s n : Nat} {d : Array Int} {rest : List Value} {ia ib ic : Int} (h : RowU w k d rest) (hs : BoxI w sb s) (hne : k ≠ sb) (hn : d.size = n) (cap a b c : Nat) (hia : ia = a) (hib : ib = b) (hic : ic = c) (ha : a < n) (hb : b < n) (hc : c < n) (hsz : n < 1000000000000) (hs1 : s < 900) :
    Calls Tryz.prog 159 #[.slice (some ⟨k, 0, none⟩) n cap, .int .i64 ia, .int .i64 ib, .int .i64 ic, .pointer (some ⟨sb, 0, none⟩)] w fun e w' => e = .returned (.int .i64 (Sort.median ltInt d a b c s).1) ∧ BoxI w' sb (Sort.median ltInt d a b c s).2 ∧ Keep (fun x => x = sb) w w' := by
  subst hn hia hib hic; exact median_u h hs hne cap a b c ha hb hc hsz hs1

set_option maxHeartbeats 1000000 in
theorem medadj_u {w : World} {k sb s : Nat} {d : Array Int} {rest : List Value} (h : RowU w k d rest) (hs : BoxI w sb s) (hne : k ≠ sb) (cap a : Nat) (ha0 : 1 ≤ a) (ha : a + 1 < d.size) (hsz : d.size < 1000000000000) (hs1 : s < 900) :
    Calls Tryz.prog 158 #[.slice (some ⟨k, 0, none⟩) d.size cap, .int .i64 a, .pointer (some ⟨sb, 0, none⟩)] w fun e w' => e = .returned (.int .i64 (medianAdjacent ltInt d a s).1) ∧ BoxI w' sb (medianAdjacent ltInt d a s).2 ∧ Keep (fun x => x = sb) w w' := by
  have H := Lib.hid h
  have HS := Lib.hid hs
  clear h hs
  obtain ⟨a', rfl⟩ : ∃ a', a = a' + 1 := ⟨a - 1, by omega⟩
  have hw1 : IntKind.i64.wrap (a' : Int) = (a' : Int) := IntWalk.i64_in _ (by omega)
  have hw2 : IntKind.i64.wrap (((a' + 1 : Nat) : Int) + 1) = ((a' + 1 : Nat) : Int) + 1 := IntWalk.i64_in _ (by omega)
  have hw3 : IntKind.i64.wrap ((a' : Int) + 1 + 1) = (a' : Int) + 1 + 1 := IntWalk.i64_in _ (by omega)
  have hm : medianAdjacent ltInt d (a' + 1) s = Sort.median ltInt d a' (a' + 1) (a' + 2) s := rfl
  rw [hm]
  go_enter Tryz.func158, Tryz.ntmps158
  go_wp2_with fail
  refine (median_u H.out HS.out hne cap a' (a' + 1) (a' + 2) (by omega) (by omega) (by omega) hsz hs1).mono ?_
  rintro e w1 ⟨rfl, hb1, hk1⟩
  have HB1 := Lib.hid hb1
  have HK1 := Lib.hid hk1
  clear hb1 hk1
  go_wp2_with fail
  go_ret
  exact ⟨rfl, HB1.out, HK1.out⟩
theorem medadj_i {w : World} {k sb s n : Nat} {d : Array Int} {rest : List Value} {ia : Int} (h : RowU w k d rest) (hs : BoxI w sb s) (hne : k ≠ sb) (hn : d.size = n) (cap a : Nat) (hia : ia = a) (ha0 : 1 ≤ a) (ha : a + 1 < n) (hsz : n < 1000000000000) (hs1 : s < 900) :
    Calls Tryz.prog 158 #[.slice (some ⟨k, 0, none⟩) n cap, .int .i64 ia, .pointer (some ⟨sb, 0, none⟩)] w fun e w' => e = .returned (.int .i64 (medianAdjacent ltInt d a s).1) ∧ BoxI w' sb (medianAdjacent ltInt d a s).2 ∧ Keep (fun x => x = sb) w w' := by
  subst hn hia; exact medadj_u h hs hne cap a ha0 ha hsz hs1
end Go.Proofs.YtgmdedkingampaaGreat

namespace Go.Proofs.YtgmdedkingampaaGreat
open Go.ChangeShapes Go.WideShapes Go.ChangeAt Go.RowKit Go.Sort
set_option maxRecDepth 100000

def hintI : Hint → Int | .unknown => 0 | .increasing => 1 | .decreasing => 2
theorem keepB {w w1 w2 : World} {b : Nat} (h : Below w.heap.size w w1) (hb : w.heap.size ≤ b) (hk : Keep (fun x => x = b) w1 w2) : Below w.heap.size w w2 := h.trans (hk.below h.size (fun k e => by subst e; exact hb))
theorem median_swaps (d : Array Int) (a b c s : Nat) : (Sort.median ltInt d a b c s).2 ≤ s + 3 := by
  unfold Sort.median
  have h1 := order2_swaps d a b s
  have h2 := order2_swaps d (order2 ltInt d a b s).2.1 c (order2 ltInt d a b s).2.2
  have h3 := order2_swaps d (order2 ltInt d a b s).1 (order2 ltInt d (order2 ltInt d a b s).2.1 c (order2 ltInt d a b s).2.2).1 (order2 ltInt d (order2 ltInt d a b s).2.1 c (order2 ltInt d a b s).2.2).2.2
  simp only
  omega
theorem median_lt (d : Array Int) {a b c n : Nat} (s : Nat) (ha : a < n) (hb : b < n) (hc : c < n) : (Sort.median ltInt d a b c s).1 < n := by
  rcases median_mem ltInt d a b c s with h | h | h <;> omega

set_option maxHeartbeats 4000000 in
theorem pivot_u {w : World} {k : Nat} {d : Array Int} {rest : List Value} (h : RowU w k d rest) (cap a b : Nat) (hab : a + 12 < b) (hb : b ≤ d.size) (hsz : d.size < 1000000000000) :
    Calls Tryz.prog 145 #[.slice (some ⟨k, 0, none⟩) d.size cap, .int .i64 a, .int .i64 b] w fun e w' => e = .returned (.tuple #[.int .i64 (choosePivot ltInt d a b).1, .int .i64 (hintI (choosePivot ltInt d a b).2)]) ∧ Below w.heap.size w w' := by
  have H := Lib.hid h
  have hk := h.lt
  clear h
  obtain ⟨l, hl⟩ : ∃ l, l = b - a := ⟨_, rfl⟩
  have hli : (b : Int) - (a : Int) = (l : Int) := by omega
  have hw1 : IntKind.i64.wrap ((b : Int) - (a : Int)) = (l : Int) := by rw [hli]; exact IntWalk.i64_in _ (by omega)
  obtain ⟨m, hm⟩ : ∃ m, m = l / 4 := ⟨_, rfl⟩
  have ht : (l : Int).tdiv 4 = (m : Int) := by rw [hm, Int.tdiv_eq_ediv_of_nonneg (by omega)]; rfl
  have ht2 : (l : Int) / 4 = (m : Int) := by rw [hm]; rfl
  have hm1 : IntKind.i64.wrap ((m : Int) * 1) = (m : Int) := by rw [Int.mul_one]; exact IntWalk.i64_in _ (by omega)
  have hm0 : IntKind.i64.wrap (m : Int) = (m : Int) := IntWalk.i64_in _ (by omega)
  have hm2 : IntKind.i64.wrap ((m : Int) * 2) = (m : Int) * 2 := IntWalk.i64_in _ (by omega)
  have hm3 : IntKind.i64.wrap ((m : Int) * 3) = (m : Int) * 3 := IntWalk.i64_in _ (by omega)
  have ha1 : IntKind.i64.wrap ((a : Int) + (m : Int)) = (a : Int) + (m : Int) := IntWalk.i64_in _ (by omega)
  have ha2 : IntKind.i64.wrap ((a : Int) + (m : Int) * 2) = (a : Int) + (m : Int) * 2 := IntWalk.i64_in _ (by omega)
  have ha3 : IntKind.i64.wrap ((a : Int) + (m : Int) * 3) = (a : Int) + (m : Int) * 3 := IntWalk.i64_in _ (by omega)
  have hl8 : (8 : Int) ≤ (l : Int) := by omega
  have HL := Lib.hid hl
  have HM := Lib.hid hm
  have hA := (Below.refl w.heap.size w).alloc (Nat.le_refl _) (.cells #[.int .i64 0] 3)
  have HA := Lib.hid hA
  have HBx : Hid (BoxI (w.alloc (.cells #[.int .i64 0] 3)) w.heap.size 0) := Lib.hid (heap_alloc_new w _)
  have HRA := Lib.hid (show RowU (w.alloc (.cells #[.int .i64 0] 3)) k d rest from (hA.block k hk).trans H.out)
  have hne : k ≠ w.heap.size := by omega
  have HT : ∀ (r : Nat × Nat) (w1 : World), Hid (choosePivot ltInt d a b = (r.1, if r.2 = 0 then .increasing else if r.2 = 12 then .decreasing else .unknown)) → True := fun _ _ _ => trivial
  clear hA HT
  by_cases h50 : 50 ≤ l
  · have h50i : (50 : Int) ≤ (l : Int) := by omega
    obtain ⟨ri, hri⟩ : ∃ r, r = medianAdjacent ltInt d (a + m) 0 := ⟨_, rfl⟩
    obtain ⟨rj, hrj⟩ : ∃ r, r = medianAdjacent ltInt d (a + m * 2) ri.2 := ⟨_, rfl⟩
    obtain ⟨rk, hrk⟩ : ∃ r, r = medianAdjacent ltInt d (a + m * 3) rj.2 := ⟨_, rfl⟩
    obtain ⟨r, hr⟩ : ∃ r, r = Sort.median ltInt d ri.1 rj.1 rk.1 rk.2 := ⟨_, rfl⟩
    have hcp : choosePivot ltInt d a b = (r.1, if r.2 = 0 then .increasing else if r.2 = 12 then .decreasing else .unknown) := by
      unfold choosePivot
      simp only [← hl, ← hm]
      rw [if_pos (by omega), if_pos (by omega), Nat.mul_one]
      simp only [← hri, ← hrj, ← hrk, ← hr]
    have si : ri.2 ≤ 3 := by rw [hri]; exact median_swaps ..
    have sj : rj.2 ≤ ri.2 + 3 := by rw [hrj]; exact median_swaps ..
    have sk : rk.2 ≤ rj.2 + 3 := by rw [hrk]; exact median_swaps ..
    have li : ri.1 < d.size := by rw [hri]; exact median_lt _ _ (by omega) (by omega) (by omega)
    have lj : rj.1 < d.size := by rw [hrj]; exact median_lt _ _ (by omega) (by omega) (by omega)
    have lk : rk.1 < d.size := by rw [hrk]; exact median_lt _ _ (by omega) (by omega) (by omega)
    have HRi := Lib.hid hri
    have HRj := Lib.hid hrj
    have HRk := Lib.hid hrk
    have HR := Lib.hid hr
    have HC := Lib.hid hcp
    clear hr hri hrj hrk hcp
    go_enter Tryz.func145, Tryz.ntmps145
    go_wp2_with fail
    with_reducible refine (medadj_i HRA.out HBx.out hne rfl cap (a + m) (by first | rfl | omega) (by omega) (by omega) hsz (by omega)).mono ?_
    rintro e w1 ⟨rfl, hb1, hk1⟩
    rw [← HRi.out] at hb1 ⊢
    have HB1 := Lib.hid hb1
    have HK1 := Lib.hid hk1
    clear hb1 hk1
    go_wp2_with fail
    with_reducible refine (medadj_i (HRA.out.keep HK1.out hne) HB1.out hne rfl cap (a + m * 2) (by first | rfl | omega) (by omega) (by omega) hsz (by omega)).mono ?_
    rintro e w2 ⟨rfl, hb1, hk1⟩
    rw [← HRj.out] at hb1 ⊢
    have HB2 := Lib.hid hb1
    have HK2 := Lib.hid (HK1.out.trans hk1)
    clear hb1 hk1
    go_wp2_with fail
    with_reducible refine (medadj_i (HRA.out.keep HK2.out hne) HB2.out hne rfl cap (a + m * 3) (by first | rfl | omega) (by omega) (by omega) hsz (by omega)).mono ?_
    rintro e w3 ⟨rfl, hb1, hk1⟩
    rw [← HRk.out] at hb1 ⊢
    have HB3 := Lib.hid hb1
    have HK3 := Lib.hid (HK2.out.trans hk1)
    clear hb1 hk1
    go_wp2_with fail
    with_reducible refine (median_i (HRA.out.keep HK3.out hne) HB3.out hne rfl cap ri.1 rj.1 rk.1 (by first | rfl | omega) (by first | rfl | omega) (by first | rfl | omega) (by omega) (by omega) (by omega) hsz (by omega)).mono ?_
    rintro e w4 ⟨rfl, hb1, hk1⟩
    rw [← HR.out] at hb1 ⊢
    obtain ⟨cs, fs⟩ := hb1.cell
    have HKB := Lib.hid (keepB HA.out (Nat.le_refl _) (HK3.out.trans hk1))
    clear hb1 hk1
    by_cases h0 : r.2 = 0
    · have h0i : (r.2 : Int) = 0 := by omega
      rw [h0i] at cs
      go_wp2_with fail
      go_returns
      rw [HC.out, if_pos h0]
      exact ⟨rfl, HKB.out⟩
    · have h0i : ((r.2 : Int) == 0) = false := by rw [beq_eq_false_iff_ne]; omega
      by_cases h12 : r.2 = 12
      · have h12i : (r.2 : Int) = 12 := by omega
        rw [h12i] at cs
        go_wp2_with fail
        go_returns
        rw [HC.out, if_neg h0, if_pos h12]
        exact ⟨rfl, HKB.out⟩
      · have h12i : ((r.2 : Int) == 12) = false := by rw [beq_eq_false_iff_ne]; omega
        go_wp2_with fail
        go_returns
        rw [HC.out, if_neg h0, if_neg h12]
        exact ⟨rfl, HKB.out⟩
  · have h50i : ¬ (50 : Int) ≤ (l : Int) := by omega
    obtain ⟨r, hr⟩ : ∃ r, r = Sort.median ltInt d (a + m) (a + m * 2) (a + m * 3) 0 := ⟨_, rfl⟩
    have hcp : choosePivot ltInt d a b = (r.1, if r.2 = 0 then .increasing else if r.2 = 12 then .decreasing else .unknown) := by
      unfold choosePivot
      simp only [← hl, ← hm]
      rw [if_pos (by omega), if_neg (by omega), Nat.mul_one, ← hr]
    have HR := Lib.hid hr
    have HC := Lib.hid hcp
    clear hr hcp
    go_enter Tryz.func145, Tryz.ntmps145
    go_wp2_with fail
    with_reducible refine (median_i HRA.out HBx.out hne rfl cap (a + m) (a + m * 2) (a + m * 3) (by first | rfl | omega) (by first | rfl | omega) (by first | rfl | omega) (by omega) (by omega) (by omega) hsz (by omega)).mono ?_
    rintro e w4 ⟨rfl, hb1, hk1⟩
    rw [← HR.out] at hb1 ⊢
    obtain ⟨cs, fs⟩ := hb1.cell
    have HKB := Lib.hid (keepB HA.out (Nat.le_refl _) hk1)
    clear hb1 hk1
    by_cases h0 : r.2 = 0
    · have h0i : (r.2 : Int) = 0 := by omega
      rw [h0i] at cs
      go_wp2_with fail
      go_returns
      rw [HC.out, if_pos h0]
      exact ⟨rfl, HKB.out⟩
    · have h0i : ((r.2 : Int) == 0) = false := by rw [beq_eq_false_iff_ne]; omega
      by_cases h12 : r.2 = 12
      · have h12i : (r.2 : Int) = 12 := by omega
        rw [h12i] at cs
        go_wp2_with fail
        go_returns
        rw [HC.out, if_neg h0, if_pos h12]
        exact ⟨rfl, HKB.out⟩
      · have h12i : ((r.2 : Int) == 12) = false := by rw [beq_eq_false_iff_ne]; omega
        go_wp2_with fail
        go_returns
        rw [HC.out, if_neg h0, if_neg h12]
        exact ⟨rfl, HKB.out⟩
end Go.Proofs.YtgmdedkingampaaGreat
