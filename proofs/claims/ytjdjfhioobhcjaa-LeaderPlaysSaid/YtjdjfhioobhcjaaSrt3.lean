/-
  The library's sort at numbers of 64 bits without sign: the heap sort, a range turned about, the median.
-/
import Derived.Test.YtjdjfhioobhcjaaSrt2
import Derived.Sort.WalkD1
namespace Go.Proofs.Ytjdjfhioobhcjaa
open Go.ChangeShapes Go.WideShapes Go.ChangeAt Go.RowKit Go.Sort
set_option maxRecDepth 100000

/-- A count that goes down to nought: one less than it stands in the loop's variable. -/
def Down (v : Value) (m : Nat) : Prop := (m = 0 ∧ v = .int .i64 (-1)) ∨ ∃ m', m = m' + 1 ∧ v = .int .i64 (m' : Nat)
theorem Down.of {m : Nat} {e : Int} (h : e = (m : Int) - 1) : Down (.int .i64 e) m := by
  cases m with
  | zero => left; exact ⟨rfl, by rw [h]; rfl⟩
  | succ m' => right; exact ⟨m', rfl, by rw [h]; congr 1; omega⟩
theorem Down.int {v : Value} {m : Nat} (h : Down v m) : v = .int .i64 ((m : Int) - 1) := by
  rcases h with ⟨rfl, rfl⟩ | ⟨m', rfl, rfl⟩
  · rfl
  · congr 1; omega
theorem sift_size (hi F root : Nat) (d : Array Int) : (Sort.siftDown ltInt hi F root d).size = d.size := size_siftDown ltInt hi F _ root d (Nat.le_refl _)

theorem sift_n {w : World} {k n : Nat} {d : Array Int} {rest : List Value} (h : RowU w k d rest) (hn : d.size = n) (cap lo hi F : Nat) (hhi : F + hi ≤ n) (hlo : lo ≤ n) (hsz : n < 1000000000000) :
    Calls Try.prog 105 #[.slice (some ⟨k, 0, none⟩) n cap, .int .i64 lo, .int .i64 hi, .int .i64 F] w fun e w' => e = .returned (.tuple #[]) ∧ RowU w' k (Sort.siftDown ltInt hi F lo d) rest ∧ Keep (fun x => x = k) w w' := by
  subst hn; exact sift_u h cap lo hi F hhi hlo hsz

set_option maxHeartbeats 4000000 in
theorem heap_u {w : World} {k : Nat} {d : Array Int} {rest : List Value} (h : RowU w k d rest) (cap a b : Nat) (hab : a ≤ b) (hb : b ≤ d.size) (hsz : d.size < 1000000000000) :
    Calls Try.prog 95 #[.slice (some ⟨k, 0, none⟩) d.size cap, .int .i64 a, .int .i64 b] w fun e w' => e = .returned (.tuple #[]) ∧ RowU w' k (Sort.heapSort ltInt d a b) rest ∧ Keep (fun x => x = k) w w' := by
  have H := Lib.hid h
  clear h
  obtain ⟨hi, hhi⟩ : ∃ hi, hi = b - a := ⟨_, rfl⟩
  have hbi : (b : Int) - (a : Int) = (hi : Int) := by omega
  have hw1 : IntKind.i64.wrap ((b : Int) - (a : Int)) = (hi : Int) := by rw [hbi]; exact IntWalk.i64_in _ (by omega)
  have hw1' : IntKind.i64.wrap (hi : Int) = (hi : Int) := IntWalk.i64_in _ (by omega)
  have hw2 : IntKind.i64.wrap ((hi : Int) - 1) = (hi : Int) - 1 := IntWalk.i64_in _ (by omega)
  have hq : ((hi : Int) - 1).tdiv 2 = (((hi - 1) / 2 + 1 : Nat) : Int) - 1 := by rw [hhi, ← half_start hab, hbi, hhi]
  have HQ := Lib.hid hq
  have HHi := Lib.hid hhi
  clear hq hhi
  go_enter Try.func95, Try.ntmps95
  go_wp2_with fail
  go_loopw [9] (fun v wr => ∃ (m : Nat) (dk : Array Int), Down v m ∧ m ≤ (hi - 1) / 2 + 1 ∧ dk.size = d.size ∧ RowU wr k dk rest ∧ Keep (fun x => x = k) w wr ∧ heapBuild ltInt hi a m dk = heapBuild ltInt hi a ((hi - 1) / 2 + 1) d) (fun v _ => (intOf v + 1).toNat)
  case atStart => exact ⟨(hi - 1) / 2 + 1, d, Down.of (by first | exact HQ.out | (have := HQ.out; simp_all)), by omega, rfl, H.out, Keep.refl _ _, rfl⟩
  case round =>
    obtain ⟨m, dk, hv, hm, hsk, hR, hK, hO⟩ := hrel
    have HR := Lib.hid hR
    have HK := Lib.hid hK
    have HO := Lib.hid hO
    clear hR hK hO
    rcases hv with ⟨rfl, rfl⟩ | ⟨m', rfl, rfl⟩
    · have HB : Hid (dk = heapBuild ltInt hi a ((hi - 1) / 2 + 1) d) := Lib.hid HO.out
      clear HO
      go_wp2_with fail
      go_loopw [10] (fun v wr2 => ∃ (m : Nat) (dj : Array Int), Down v m ∧ m ≤ hi ∧ dj.size = d.size ∧ RowU wr2 k dj rest ∧ Keep (fun x => x = k) w wr2 ∧ heapPop ltInt a m dj = heapPop ltInt a hi dk) (fun v _ => (intOf v + 1).toNat)
      case atStart => exact ⟨hi, dk, Down.of rfl, by omega, hsk, HR.out, HK.out, rfl⟩
      case round =>
        obtain ⟨m, dj, hv, hm, hsj, hR, hK, hO⟩ := hrel
        have HRj := Lib.hid hR
        have HKj := Lib.hid hK
        have HOj := Lib.hid hO
        clear hR hK hO HR HK
        rcases hv with ⟨rfl, rfl⟩ | ⟨m', rfl, rfl⟩
        · go_wp2_with fail
          go_end0
          refine ⟨rfl, ?_, HKj.out⟩
          have : Sort.heapSort ltInt d a b = dj := by
            unfold Sort.heapSort
            rw [← HHi.out, ← HB.out, ← HOj.out]; rfl
          rw [this]; exact HRj.out
        · obtain ⟨x, hx⟩ : ∃ x, x = dj[a]! := ⟨_, rfl⟩
          obtain ⟨y, hy⟩ : ∃ y, y = dj[a + m']! := ⟨_, rfl⟩
          obtain ⟨c0, f0⟩ := HRj.out.cell (i := a) (by omega)
          obtain ⟨c1, f1⟩ := HRj.out.cell (i := a + m') (by omega)
          rw [← hx] at c0
          rw [← hy] at c1
          have HX := Lib.hid hx
          have HY := Lib.hid hy
          clear hx hy
          obtain ⟨pw, p0, ps, pn⟩ := idx (e := (a : Int)) (n := a) (s := d.size) rfl (by omega) hsz
          obtain ⟨qw, q0, qs, qn⟩ := idx (e := (a : Int) + (m' : Int)) (n := a + m') (s := d.size) (by omega) (by omega) hsz
          have hm0 : (0 : Int) ≤ (m' : Int) := by omega
          have hmw : IntKind.i64.wrap ((m' : Int) - 1) = (m' : Int) - 1 := IntWalk.i64_in _ (by omega)
          obtain ⟨c2, f2⟩ := (HRj.out.set (i := a) (by omega) y).cell (i := a + m') (by simp; omega)
          generalize (dj.setIfInBounds a y)[a + m']! = y2 at c2
          go_wp2_with fail
          go_region
          all_goals go_wp2_with fail
          have hSw := HRj.out.swap (i := a) (j := a + m') (by omega) (by omega)
          rw [← HX.out, ← HY.out] at hSw
          have HSw := Lib.hid hSw.drew
          have HKw := Lib.hid (keep_swap HKj.out a (a + m') (.int .u64 y) (.int .u64 x)).drew
          clear hSw
          refine (sift_n (d := swp dj a (a + m')) HSw.out (by rw [size_swp]; exact hsj) cap 0 m' a (by omega) (by omega) hsz).mono ?_
          rintro e w5 ⟨rfl, hR5, hK5⟩
          have HR5 := Lib.hid hR5
          have HK5 := Lib.hid (HKw.out.trans hK5)
          clear hR5 hK5
          go_wp2_with fail
          go_roundw
          case rel => exact ⟨m', _, Down.of rfl, by omega, by rw [sift_size, size_swp]; exact hsj, HR5.out, HK5.out, by rw [← HOj.out]; rfl⟩
          case measure => (simp [intOf]; try omega)
    · have hm0 : (0 : Int) ≤ (m' : Int) := by omega
      have hmw : IntKind.i64.wrap ((m' : Int) - 1) = (m' : Int) - 1 := IntWalk.i64_in _ (by omega)
      go_wp2_with fail
      refine (sift_n (d := dk) HR.out hsk cap m' hi a (by omega) (by omega) hsz).mono ?_
      rintro e w5 ⟨rfl, hR5, hK5⟩
      have HR5 := Lib.hid hR5
      have HK5 := Lib.hid (HK.out.trans hK5)
      clear hR5 hK5
      go_wp2_with fail
      go_roundw
      case rel => exact ⟨m', _, Down.of rfl, by omega, by rw [sift_size]; exact hsk, HR5.out, HK5.out, by rw [← HO.out]; rfl⟩
      case measure => (simp [intOf]; try omega)

set_option maxHeartbeats 4000000 in
theorem rev_u {w : World} {k : Nat} {d : Array Int} {rest : List Value} (h : RowU w k d rest) (cap a b : Nat) (hab : a < b) (hb : b ≤ d.size) (hsz : d.size < 1000000000000) :
    Calls Try.prog 98 #[.slice (some ⟨k, 0, none⟩) d.size cap, .int .i64 a, .int .i64 b] w fun e w' => e = .returned (.tuple #[]) ∧ RowU w' k (Sort.reverseRange d a b) rest ∧ Keep (fun x => x = k) w w' := by
  have H := Lib.hid h
  clear h
  obtain ⟨b', rfl⟩ : ∃ b', b = b' + 1 := ⟨b - 1, by omega⟩
  have hw1 : IntKind.i64.wrap (b' : Int) = (b' : Int) := IntWalk.i64_in _ (by omega)
  go_enter Try.func98, Try.ntmps98
  go_wp2_with fail
  go_loopw [6, 7] (fun vi vj wr => ∃ (i j : Nat) (dk : Array Int), vi = .int .i64 i ∧ vj = .int .i64 j ∧ i ≤ d.size ∧ j < d.size ∧ dk.size = d.size ∧ RowU wr k dk rest ∧ Keep (fun x => x = k) w wr ∧ reverseLoop i j dk = reverseLoop a b' d) (fun vi vj _ => (intOf vj).toNat)
  case atStart => exact ⟨a, b', d, rfl, by first | rfl | go_num, by omega, by omega, rfl, H.out, Keep.refl _ _, rfl⟩
  case round =>
    obtain ⟨i, j, dk, rfl, rfl, hi, hj, hsk, hR, hK, hO⟩ := hrel
    have HR := Lib.hid hR
    have HK := Lib.hid hK
    have HO := Lib.hid hO
    clear hR hK hO
    by_cases hij : i < j
    · have hiji : (i : Int) < (j : Int) := by omega
      obtain ⟨x, hx⟩ : ∃ x, x = dk[i]! := ⟨_, rfl⟩
      obtain ⟨y, hy⟩ : ∃ y, y = dk[j]! := ⟨_, rfl⟩
      obtain ⟨c0, f0⟩ := HR.out.cell (i := i) (by omega)
      obtain ⟨c1, f1⟩ := HR.out.cell (i := j) (by omega)
      rw [← hx] at c0
      rw [← hy] at c1
      have HX := Lib.hid hx
      have HY := Lib.hid hy
      clear hx hy
      obtain ⟨pw, p0, ps, pn⟩ := idx (e := (i : Int)) (n := i) (s := d.size) rfl (by omega) hsz
      obtain ⟨qw, q0, qs, qn⟩ := idx (e := (j : Int)) (n := j) (s := d.size) rfl (by omega) hsz
      have hne : ¬ i = j := by omega
      have hne2 : ¬ j = i := by omega
      have hjw : IntKind.i64.wrap ((j : Int) - 1) = (j : Int) - 1 := IntWalk.i64_in _ (by omega)
      go_wp2_with fail
      go_region
      all_goals go_wp2_with fail
      go_roundw
      case rel => exact ⟨i + 1, j - 1, swp dk i j, by go_num, by (congr 1; omega), by omega, by omega, by rw [size_swp]; exact hsk, (by
        have := HR.out.swap (i := i) (j := j) (by omega) (by omega)
        rw [← HX.out, ← HY.out] at this
        exact this.drew), (keep_swap HK.out _ _ _ _).drew, (by rw [← HO.out]; conv => rhs; rw [reverseLoop, if_pos hij])⟩
      case measure => (simp [intOf]; try omega)
    · have hiji : ¬ ((i : Int) < (j : Int)) := by omega
      go_wp2_with fail
      go_end0
      refine ⟨rfl, ?_, HK.out⟩
      have : Sort.reverseRange d a (b' + 1) = dk := by
        unfold Sort.reverseRange
        rw [Nat.add_sub_cancel, ← HO.out, reverseLoop, if_neg hij]
      rw [this]; exact HR.out
end Go.Proofs.Ytjdjfhioobhcjaa
