/-
  The library's sort at numbers of 64 bits without sign: the pivot.
-/
import Derived.Test.YtjdjfhioobhcjaaSrt4
namespace Go.Proofs.Ytjdjfhioobhcjaa
open Go.ChangeShapes Go.WideShapes Go.ChangeAt Go.RowKit Go.Sort
set_option maxRecDepth 100000

def hintI : Hint → Int | .unknown => 0 | .increasing => 1 | .decreasing => 2
theorem keepB {w w1 w2 : World} {b : Nat} (h : Below w.heap.size w w1) (hb : w.heap.size ≤ b) (hk : Keep (fun x => x = b) w1 w2) : Below w.heap.size w w2 := h.trans (hk.below h.size (fun k e => by subst e; exact hb))
theorem median_swaps (d : Array Int) (a b c s : Nat) : (Sort.median ltInt d a b c s).2 ≤ s + 3 := by
  unfold Sort.median
  have h1 := order2_swaps d a b s
  have h2 := order2_swaps d (order2 ltInt d a b s).2.1 c (order2 ltInt d a b s).2.2
  have h3 := order2_swaps d (order2 ltInt d a b s).1 (order2 ltInt d (order2 ltInt d a b s).2.1 c (order2 ltInt d a b s).2.2).1 (order2 ltInt d (order2 ltInt d a b s).2.1 c (order2 ltInt d a b s).2.2).2.2
  simp only
  omega
theorem median_lt (d : Array Int) {a b c n : Nat} (s : Nat) (ha : a < n) (hb : b < n) (hc : c < n) : (Sort.median ltInt d a b c s).1 < n := by
  rcases median_mem ltInt d a b c s with h | h | h <;> omega

set_option maxHeartbeats 4000000 in
theorem pivot_u {w : World} {k : Nat} {d : Array Int} {rest : List Value} (h : RowU w k d rest) (cap a b : Nat) (hab : a + 12 < b) (hb : b ≤ d.size) (hsz : d.size < 1000000000000) :
    Calls Try.prog 97 #[.slice (some ⟨k, 0, none⟩) d.size cap, .int .i64 a, .int .i64 b] w fun e w' => e = .returned (.tuple #[.int .i64 (choosePivot ltInt d a b).1, .int .i64 (hintI (choosePivot ltInt d a b).2)]) ∧ Below w.heap.size w w' := by
  have H := Lib.hid h
  have hk := h.lt
  clear h
  obtain ⟨l, hl⟩ : ∃ l, l = b - a := ⟨_, rfl⟩
  have hli : (b : Int) - (a : Int) = (l : Int) := by omega
  have hw1 : IntKind.i64.wrap ((b : Int) - (a : Int)) = (l : Int) := by rw [hli]; exact IntWalk.i64_in _ (by omega)
  obtain ⟨m, hm⟩ : ∃ m, m = l / 4 := ⟨_, rfl⟩
  have ht : (l : Int).tdiv 4 = (m : Int) := by rw [hm, Int.tdiv_eq_ediv_of_nonneg (by omega)]; rfl
  have ht2 : (l : Int) / 4 = (m : Int) := by rw [hm]; rfl
  have hm1 : IntKind.i64.wrap ((m : Int) * 1) = (m : Int) := by rw [Int.mul_one]; exact IntWalk.i64_in _ (by omega)
  have hm0 : IntKind.i64.wrap (m : Int) = (m : Int) := IntWalk.i64_in _ (by omega)
  have hm2 : IntKind.i64.wrap ((m : Int) * 2) = (m : Int) * 2 := IntWalk.i64_in _ (by omega)
  have hm3 : IntKind.i64.wrap ((m : Int) * 3) = (m : Int) * 3 := IntWalk.i64_in _ (by omega)
  have ha1 : IntKind.i64.wrap ((a : Int) + (m : Int)) = (a : Int) + (m : Int) := IntWalk.i64_in _ (by omega)
  have ha2 : IntKind.i64.wrap ((a : Int) + (m : Int) * 2) = (a : Int) + (m : Int) * 2 := IntWalk.i64_in _ (by omega)
  have ha3 : IntKind.i64.wrap ((a : Int) + (m : Int) * 3) = (a : Int) + (m : Int) * 3 := IntWalk.i64_in _ (by omega)
  have hl8 : (8 : Int) ≤ (l : Int) := by omega
  have HL := Lib.hid hl
  have HM := Lib.hid hm
  have hA := (Below.refl w.heap.size w).alloc (Nat.le_refl _) (.cells #[.int .i64 0] 3)
  have HA := Lib.hid hA
  have HBx : Hid (BoxI (w.alloc (.cells #[.int .i64 0] 3)) w.heap.size 0) := Lib.hid (heap_alloc_new w _)
  have HRA := Lib.hid (show RowU (w.alloc (.cells #[.int .i64 0] 3)) k d rest from (hA.block k hk).trans H.out)
  have hne : k ≠ w.heap.size := by omega
  have HT : ∀ (r : Nat × Nat) (w1 : World), Hid (choosePivot ltInt d a b = (r.1, if r.2 = 0 then .increasing else if r.2 = 12 then .decreasing else .unknown)) → True := fun _ _ _ => trivial
  clear hA HT
  by_cases h50 : 50 ≤ l
  · have h50i : (50 : Int) ≤ (l : Int) := by omega
    obtain ⟨ri, hri⟩ : ∃ r, r = medianAdjacent ltInt d (a + m) 0 := ⟨_, rfl⟩
    obtain ⟨rj, hrj⟩ : ∃ r, r = medianAdjacent ltInt d (a + m * 2) ri.2 := ⟨_, rfl⟩
    obtain ⟨rk, hrk⟩ : ∃ r, r = medianAdjacent ltInt d (a + m * 3) rj.2 := ⟨_, rfl⟩
    obtain ⟨r, hr⟩ : ∃ r, r = Sort.median ltInt d ri.1 rj.1 rk.1 rk.2 := ⟨_, rfl⟩
    have hcp : choosePivot ltInt d a b = (r.1, if r.2 = 0 then .increasing else if r.2 = 12 then .decreasing else .unknown) := by
      unfold choosePivot
      simp only [← hl, ← hm]
      rw [if_pos (by omega), if_pos (by omega), Nat.mul_one]
      simp only [← hri, ← hrj, ← hrk, ← hr]
    have si : ri.2 ≤ 3 := by rw [hri]; exact median_swaps ..
    have sj : rj.2 ≤ ri.2 + 3 := by rw [hrj]; exact median_swaps ..
    have sk : rk.2 ≤ rj.2 + 3 := by rw [hrk]; exact median_swaps ..
    have li : ri.1 < d.size := by rw [hri]; exact median_lt _ _ (by omega) (by omega) (by omega)
    have lj : rj.1 < d.size := by rw [hrj]; exact median_lt _ _ (by omega) (by omega) (by omega)
    have lk : rk.1 < d.size := by rw [hrk]; exact median_lt _ _ (by omega) (by omega) (by omega)
    have HRi := Lib.hid hri
    have HRj := Lib.hid hrj
    have HRk := Lib.hid hrk
    have HR := Lib.hid hr
    have HC := Lib.hid hcp
    clear hr hri hrj hrk hcp
    go_enter Try.func97, Try.ntmps97
    go_wp2_with fail
    with_reducible refine (medadj_i HRA.out HBx.out hne rfl cap (a + m) (by first | rfl | omega) (by omega) (by omega) hsz (by omega)).mono ?_
    rintro e w1 ⟨rfl, hb1, hk1⟩
    rw [← HRi.out] at hb1 ⊢
    have HB1 := Lib.hid hb1
    have HK1 := Lib.hid hk1
    clear hb1 hk1
    go_wp2_with fail
    with_reducible refine (medadj_i (HRA.out.keep HK1.out hne) HB1.out hne rfl cap (a + m * 2) (by first | rfl | omega) (by omega) (by omega) hsz (by omega)).mono ?_
    rintro e w2 ⟨rfl, hb1, hk1⟩
    rw [← HRj.out] at hb1 ⊢
    have HB2 := Lib.hid hb1
    have HK2 := Lib.hid (HK1.out.trans hk1)
    clear hb1 hk1
    go_wp2_with fail
    with_reducible refine (medadj_i (HRA.out.keep HK2.out hne) HB2.out hne rfl cap (a + m * 3) (by first | rfl | omega) (by omega) (by omega) hsz (by omega)).mono ?_
    rintro e w3 ⟨rfl, hb1, hk1⟩
    rw [← HRk.out] at hb1 ⊢
    have HB3 := Lib.hid hb1
    have HK3 := Lib.hid (HK2.out.trans hk1)
    clear hb1 hk1
    go_wp2_with fail
    with_reducible refine (median_i (HRA.out.keep HK3.out hne) HB3.out hne rfl cap ri.1 rj.1 rk.1 (by first | rfl | omega) (by first | rfl | omega) (by first | rfl | omega) (by omega) (by omega) (by omega) hsz (by omega)).mono ?_
    rintro e w4 ⟨rfl, hb1, hk1⟩
    rw [← HR.out] at hb1 ⊢
    obtain ⟨cs, fs⟩ := hb1.cell
    have HKB := Lib.hid (keepB HA.out (Nat.le_refl _) (HK3.out.trans hk1))
    clear hb1 hk1
    by_cases h0 : r.2 = 0
    · have h0i : (r.2 : Int) = 0 := by omega
      rw [h0i] at cs
      go_wp2_with fail
      go_returns
      rw [HC.out, if_pos h0]
      exact ⟨rfl, HKB.out⟩
    · have h0i : ((r.2 : Int) == 0) = false := by rw [beq_eq_false_iff_ne]; omega
      by_cases h12 : r.2 = 12
      · have h12i : (r.2 : Int) = 12 := by omega
        rw [h12i] at cs
        go_wp2_with fail
        go_returns
        rw [HC.out, if_neg h0, if_pos h12]
        exact ⟨rfl, HKB.out⟩
      · have h12i : ((r.2 : Int) == 12) = false := by rw [beq_eq_false_iff_ne]; omega
        go_wp2_with fail
        go_returns
        rw [HC.out, if_neg h0, if_neg h12]
        exact ⟨rfl, HKB.out⟩
  · have h50i : ¬ (50 : Int) ≤ (l : Int) := by omega
    obtain ⟨r, hr⟩ : ∃ r, r = Sort.median ltInt d (a + m) (a + m * 2) (a + m * 3) 0 := ⟨_, rfl⟩
    have hcp : choosePivot ltInt d a b = (r.1, if r.2 = 0 then .increasing else if r.2 = 12 then .decreasing else .unknown) := by
      unfold choosePivot
      simp only [← hl, ← hm]
      rw [if_pos (by omega), if_neg (by omega), Nat.mul_one, ← hr]
    have HR := Lib.hid hr
    have HC := Lib.hid hcp
    clear hr hcp
    go_enter Try.func97, Try.ntmps97
    go_wp2_with fail
    with_reducible refine (median_i HRA.out HBx.out hne rfl cap (a + m) (a + m * 2) (a + m * 3) (by first | rfl | omega) (by first | rfl | omega) (by first | rfl | omega) (by omega) (by omega) (by omega) hsz (by omega)).mono ?_
    rintro e w4 ⟨rfl, hb1, hk1⟩
    rw [← HR.out] at hb1 ⊢
    obtain ⟨cs, fs⟩ := hb1.cell
    have HKB := Lib.hid (keepB HA.out (Nat.le_refl _) hk1)
    clear hb1 hk1
    by_cases h0 : r.2 = 0
    · have h0i : (r.2 : Int) = 0 := by omega
      rw [h0i] at cs
      go_wp2_with fail
      go_returns
      rw [HC.out, if_pos h0]
      exact ⟨rfl, HKB.out⟩
    · have h0i : ((r.2 : Int) == 0) = false := by rw [beq_eq_false_iff_ne]; omega
      by_cases h12 : r.2 = 12
      · have h12i : (r.2 : Int) = 12 := by omega
        rw [h12i] at cs
        go_wp2_with fail
        go_returns
        rw [HC.out, if_neg h0, if_pos h12]
        exact ⟨rfl, HKB.out⟩
      · have h12i : ((r.2 : Int) == 12) = false := by rw [beq_eq_false_iff_ne]; omega
        go_wp2_with fail
        go_returns
        rw [HC.out, if_neg h0, if_neg h12]
        exact ⟨rfl, HKB.out⟩
end Go.Proofs.Ytjdjfhioobhcjaa
