/-
  The library's sort at numbers of 64 bits without sign: how a row lies, comparing, the insertion sort.
-/
import Derived.Test.YtjdjfhioobhcjaaLib5
import Derived.Test.YtjdjfhioobhcjaaProg
import Derived.Sort.Defs
import Derived.Sort.LotA
import Derived.Shelf.RegionOpen
import Derived.CellFam
import Derived.Sort.WalkA
namespace Go.Proofs.Ytjdjfhioobhcjaa
open Go.ChangeShapes Go.WideShapes Go.ChangeAt Go.RowKit Go.Sort
set_option maxRecDepth 100000

/-- Block k holds these numbers, then what is left of its room. -/
def RowU (w : World) (k : Nat) (d : Array Int) (rest : List Value) : Prop := w.heap[k]? = some (.cells (d.toList.map (Value.int .u64) ++ rest).toArray 29 (0, 0))
theorem RowU.cell {w : World} {k : Nat} {d : Array Int} {rest : List Value} (h : RowU w k d rest) {i : Nat} (hi : i < d.size) : w.cell? ⟨k, i, none⟩ = some (.int .u64 d[i]!) ∧ w.frozen? ⟨k, i, none⟩ = false := by
  unfold RowU at h
  refine ⟨?_, by simp [World.frozen?, h]⟩
  rw [show (⟨k, i, none⟩ : Addr) = (⟨k, 0, none⟩ : Addr).add i by unfold Addr.add; split <;> simp_all]
  refine World.news_of_block h i _ ?_
  simp only [List.getElem?_append, List.length_map, Array.length_toList, hi, if_true]
  simp [hi]
theorem RowU.lt {w : World} {k : Nat} {d : Array Int} {rest : List Value} (h : RowU w k d rest) : k < w.heap.size := (Array.getElem?_eq_some_iff.1 h).1
theorem RowU.set {w : World} {k : Nat} {d : Array Int} {rest : List Value} (h : RowU w k d rest) {i : Nat} (hi : i < d.size) (x : Int) : RowU (w.setCell ⟨k, i, none⟩ (.int .u64 x)) k (d.setIfInBounds i x) rest := by
  unfold RowU at *
  rw [heap_setCell_same w k i _ _ _ h]
  congr 2
  apply Array.toList_inj.1
  simp only [Array.toList_setIfInBounds, List.setIfInBounds_toArray, List.toList_toArray]
  rw [List.set_append_left _ _ (by simpa using hi), List.map_set]
theorem RowU.keep {S : Nat → Prop} {w w' : World} {k : Nat} {d : Array Int} {rest : List Value} (h : RowU w k d rest) (hk : Keep S w w') (hs : ¬ S k) : RowU w' k d rest := (hk.block k h.lt hs).trans h
theorem RowU.drewN {w : World} {k : Nat} {d : Array Int} {rest : List Value} (h : RowU w k d rest) (n : Nat) : RowU (w.drewN n) k d rest := h
theorem RowU.drew {w : World} {k : Nat} {d : Array Int} {rest : List Value} (h : RowU w k d rest) : RowU w.drew k d rest := h
/-- Two that are exchanged. -/
theorem RowU.swap {w : World} {k : Nat} {d : Array Int} {rest : List Value} (h : RowU w k d rest) {i j : Nat} (hi : i < d.size) (hj : j < d.size) : RowU ((w.setCell ⟨k, i, none⟩ (.int .u64 d[j]!)).setCell ⟨k, j, none⟩ (.int .u64 d[i]!)) k (swp d i j) rest :=
  (h.set hi d[j]!).set (by simpa using hj) d[i]!
theorem keep_swap {w0 w : World} {k : Nat} (h : Keep (fun x => x = k) w0 w) (i j : Nat) (u v : Value) : Keep (fun x => x = k) w0 ((w.setCell ⟨k, i, none⟩ u).setCell ⟨k, j, none⟩ v) := (h.setCell (p := ⟨k, i, none⟩) (Or.inl rfl) u).setCell (p := ⟨k, j, none⟩) (Or.inl rfl) v

/-- A quiet callee behind draws. -/
theorem quiet_same2 {P : Program} {f : FuncId} {args : Array Value} {w : World} {q n : Nat} {v : Value}
    (h : Calls P f args (w.drewN (q + n)) fun e w' => e = .returned v ∧ w.drewN (q + n) = w') : Calls P f args (w.drewN (q + n)) fun e w'' => e = .returned v ∧ ∃ m, w'' = w.drewN (q + m) :=
  h.mono fun _ _ ⟨he, hm⟩ => ⟨he, n, hm.symm⟩
theorem isNaN_u (x : Int) (w : World) : Calls Try.prog 110 #[.int .u64 x] w fun e w' => e = .returned (.bool false) ∧ w = w' := by
  go_enter Try.func110, Try.ntmps110
  go_wp2
  go_ret
  exact ⟨by simp, rfl⟩
theorem less_u (x y : Int) (w : World) : Calls Try.prog 100 #[.int .u64 x, .int .u64 y] w fun e w' => e = .returned (.bool (ltInt x y)) ∧ w = w' := by
  go_enter Try.func100, Try.ntmps100
  go_wp2_with (first | (go_at_call 110; refine (isNaN_u _ _).mono ?_; rintro e w' ⟨rfl, rfl⟩) | fail)
  all_goals
    go_ret
    exact ⟨by simp_all [ltInt], rfl⟩

set_option maxHeartbeats 4000000 in
theorem insort_u {w : World} {k : Nat} {d : Array Int} {rest : List Value} (h : RowU w k d rest) (cap a b : Nat) (hab : a ≤ b) (hb : b ≤ d.size) (hsz : d.size < 1000000000000) :
    Calls Try.prog 94 #[.slice (some ⟨k, 0, none⟩) d.size cap, .int .i64 a, .int .i64 b] w fun e w' => e = .returned (.tuple #[]) ∧ RowU w' k (Sort.insertionSort ltInt d a b) rest ∧ Keep (fun x => x = k) w w' := by
  have H := Lib.hid h
  clear h
  go_enter Try.func94, Try.ntmps94
  go_wp2_with fail
  go_loopw [6] (fun vi wr => ∃ (i : Nat) (dk : Array Int), vi = .int .i64 i ∧ a < i ∧ i ≤ b + 1 ∧ dk.size = d.size ∧ RowU wr k dk rest ∧ Keep (fun x => x = k) w wr ∧ insOuter ltInt a b i dk = insOuter ltInt a b (a + 1) d) (fun vi _ => b + 1 - (intOf vi).toNat)
  case atStart => exact ⟨a + 1, d, by go_num, by omega, by omega, rfl, H.out, Keep.refl _ _, rfl⟩
  case round =>
    obtain ⟨i, dk, rfl, hai, hib, hsk, hR, hK, hO⟩ := hrel
    have HR := Lib.hid hR
    have HK := Lib.hid hK
    have HO := Lib.hid hO
    clear hR hK hO
    by_cases hlt : i < b
    · have hlti : (i : Int) < (b : Int) := by omega
      go_wp2_with fail
      go_loopw [7] (fun vj wr2 => ∃ (j : Nat) (dj : Array Int), vj = .int .i64 j ∧ a ≤ j ∧ j ≤ i ∧ dj.size = d.size ∧ RowU wr2 k dj rest ∧ Keep (fun x => x = k) w wr2 ∧ insInner ltInt a j dj = insInner ltInt a i dk) (fun vj _ => (intOf vj).toNat)
      case atStart => exact ⟨i, dk, rfl, by omega, by omega, hsk, HR.out, HK.out, rfl⟩
      case round =>
        obtain ⟨j, dj, rfl, haj, hji, hsj, hRj, hKj, hI⟩ := hrel
        have HRj := Lib.hid hRj
        have HKj := Lib.hid hKj
        have HI := Lib.hid hI
        clear hRj hKj hI
        by_cases hja : a < j
        · obtain ⟨x, hx⟩ : ∃ x, x = dj[j]! := ⟨_, rfl⟩
          obtain ⟨y, hy⟩ : ∃ y, y = dj[j - 1]! := ⟨_, rfl⟩
          obtain ⟨j', rfl⟩ : ∃ j', j = j' + 1 := ⟨j - 1, by omega⟩
          rw [Nat.add_sub_cancel] at hy
          obtain ⟨c1, f1⟩ := HRj.out.cell (i := j' + 1) (by omega)
          obtain ⟨c0, f0⟩ := HRj.out.cell (i := j') (by omega)
          rw [← hx] at c1
          rw [← hy] at c0
          have HX := Lib.hid hx
          have HY := Lib.hid hy
          have hwr : IntKind.i64.wrap (j' : Int) = (j' : Int) := IntWalk.i64_in _ (by omega)
          have hja1 : (a : Int) < ((j' + 1 : Nat) : Int) := by omega
          have hjb1 : ((j' + 1 : Nat) : Int) < (d.size : Int) := by omega
          have hjb0 : (j' : Int) < (d.size : Int) := by omega
          have hja2 : (a : Int) < (j' : Int) + 1 := by omega
          have hjb2 : (j' : Int) + 1 < (d.size : Int) := by omega
          have hz1 : (0 : Int) ≤ (j' : Int) + 1 := by omega
          have hz0 : (0 : Int) ≤ (j' : Int) := by omega
          have hn1 : ((j' : Int) + 1).toNat = j' + 1 := by omega
          have hn0 : (j' : Int).toNat = j' := by omega
          have hwr2 : IntKind.i64.wrap ((j' : Int) + 1 - 1) = (j' : Int) := by rw [Int.add_sub_cancel]; exact hwr
          clear hx hy
          go_wp2_with fail
          go_quiet (first | (go_at_call 100; exact quiet_same (less_u _ _ _)) | fail)
          cases hl : ltInt x y
          · have HL := Lib.hid hl
            go_wp2_with fail
            go_roundw
            case rel => exact ⟨i + 1, dj, by go_num, by omega, by omega, hsj, HRj.out.drewN _, HKj.out.drewN _, by
              rw [← HO.out, insOuter_go _ _ _ _ _ hlt, ← HI.out, insInner_stop _ _ _ _ (Or.inr (by rw [Nat.add_sub_cancel, ← HX.out, ← HY.out]; exact HL.out))]⟩
            case measure => (simp [intOf]; try omega)
          · have HL := Lib.hid hl
            clear hl
            go_wp2_with fail
            go_region
            all_goals go_wp2
            go_roundw
            case rel => exact ⟨j', swp dj (j' + 1) j', by go_num, by omega, by omega, by rw [size_swp]; exact hsj, (by
              have := HRj.out.swap (i := j' + 1) (j := j') (by omega) (by omega)
              rw [← HX.out, ← HY.out] at this
              exact this), (keep_swap HKj.out _ _ _ _).drewN _, (by
              rw [← HI.out, insInner_go ltInt a (j' + 1) dj hja (by rw [Nat.add_sub_cancel, ← HX.out, ← HY.out]; exact HL.out)]
              rfl)⟩
            case measure => (simp [intOf]; try omega)
        · have hja3 : ¬ ((a : Int) < (j : Int)) := by omega
          have hja4 : decide ((a : Int) < (j : Int)) = false := decide_eq_false hja3
          go_wp2_with fail
          go_quiet (fail)
          go_wp2_with fail
          go_roundw
          case rel => exact ⟨i + 1, dj, by go_num, by omega, by omega, hsj, HRj.out.drewN _, HKj.out.drewN _, by
            rw [← HO.out, insOuter_go _ _ _ _ _ hlt, ← HI.out, insInner_stop _ _ _ _ (Or.inl (by omega))]⟩
          case measure => simp [intOf]; omega
    · have hlti : ¬ ((i : Int) < (b : Int)) := by omega
      go_wp2_with fail
      go_end0
      exact ⟨rfl, by unfold Sort.insertionSort; rw [← HO.out, insOuter_stop _ _ _ _ _ hlt]; exact HR.out, HK.out⟩
end Go.Proofs.Ytjdjfhioobhcjaa
