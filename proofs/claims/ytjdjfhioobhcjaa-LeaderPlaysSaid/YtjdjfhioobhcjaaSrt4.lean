/-
  The library's sort at numbers of 64 bits without sign: the median, the pivot.
-/
import Derived.Test.YtjdjfhioobhcjaaSrt3
namespace Go.Proofs.Ytjdjfhioobhcjaa
open Go.ChangeShapes Go.WideShapes Go.ChangeAt Go.RowKit Go.Sort
set_option maxRecDepth 100000

def BoxI (w : World) (b : Nat) (s : Nat) : Prop := w.heap[b]? = some (.cells #[.int .i64 s] 3 (0, 0))
theorem BoxI.cell {w : World} {b s : Nat} (h : BoxI w b s) : w.cell? ⟨b, 0, none⟩ = some (.int .i64 s) ∧ w.frozen? ⟨b, 0, none⟩ = false := by
  unfold BoxI at h; simp [World.cell?, World.frozen?, h]
theorem BoxI.set {w : World} {b s : Nat} (h : BoxI w b s) (t : Nat) : BoxI (w.setCell ⟨b, 0, none⟩ (.int .i64 t)) b t := by
  unfold BoxI at *; simpa using heap_setCell_same w b 0 _ _ (.int .i64 t) h
theorem BoxI.lt {w : World} {b s : Nat} (h : BoxI w b s) : b < w.heap.size := (Array.getElem?_eq_some_iff.1 h).1

set_option maxHeartbeats 1000000 in
theorem order2_u {w : World} {k sb s : Nat} {d : Array Int} {rest : List Value} (h : RowU w k d rest) (hs : BoxI w sb s) (cap a b : Nat) (ha : a < d.size) (hb : b < d.size) (hsz : d.size < 1000000000000) (hs1 : s < 1000) :
    Calls Try.prog 111 #[.slice (some ⟨k, 0, none⟩) d.size cap, .int .i64 a, .int .i64 b, .pointer (some ⟨sb, 0, none⟩)] w fun e w' => e = .returned (.tuple #[.int .i64 (order2 ltInt d a b s).1, .int .i64 (order2 ltInt d a b s).2.1]) ∧ BoxI w' sb (order2 ltInt d a b s).2.2 ∧ Keep (fun x => x = sb) w w' := by
  obtain ⟨x, hx⟩ : ∃ x, x = d[a]! := ⟨_, rfl⟩
  obtain ⟨y, hy⟩ : ∃ y, y = d[b]! := ⟨_, rfl⟩
  obtain ⟨c0, f0⟩ := h.cell (i := a) (by omega)
  obtain ⟨c1, f1⟩ := h.cell (i := b) (by omega)
  obtain ⟨cs, fs⟩ := hs.cell
  rw [← hx] at c0
  rw [← hy] at c1
  have ho : order2 ltInt d a b s = if ltInt y x = true then (b, a, s + 1) else (a, b, s) := by rw [hx, hy]; rfl
  have HO := Lib.hid ho
  have HS := Lib.hid hs
  obtain ⟨pw, p0, ps, pn⟩ := idx (e := (a : Int)) (n := a) (s := d.size) rfl (by omega) hsz
  obtain ⟨qw, q0, qs, qn⟩ := idx (e := (b : Int)) (n := b) (s := d.size) rfl (by omega) hsz
  have hw : IntKind.i64.wrap ((s : Int) + 1) = (s : Int) + 1 := IntWalk.i64_in _ (by omega)
  clear hx hy ho h hs
  go_enter Try.func111, Try.ntmps111
  go_wp2_with fail
  go_quiet (first | (go_at_call 100; exact quiet_same (less_u _ _ _)) | fail)
  cases hl : ltInt y x
  · have HL := Lib.hid hl
    clear hl
    go_wp2
    go_returns
    rw [HO.out, HL.out]
    exact ⟨rfl, HS.out, (Keep.refl _ _).drewN _⟩
  · have HL := Lib.hid hl
    clear hl
    go_wp2
    go_returns
    rw [HO.out, HL.out]
    exact ⟨rfl, HS.out.set (s + 1), Keep.setCell (S := fun x => x = sb) ((Keep.refl _ _).drewN _) (p := ⟨sb, 0, none⟩) (Or.inl rfl) _⟩

set_option maxHeartbeats 1000000 in
theorem median_u {w : World} {k sb s : Nat} {d : Array Int} {rest : List Value} (h : RowU w k d rest) (hs : BoxI w sb s) (hne : k ≠ sb) (cap a b c : Nat) (ha : a < d.size) (hb : b < d.size) (hc : c < d.size) (hsz : d.size < 1000000000000) (hs1 : s < 900) :
    Calls Try.prog 109 #[.slice (some ⟨k, 0, none⟩) d.size cap, .int .i64 a, .int .i64 b, .int .i64 c, .pointer (some ⟨sb, 0, none⟩)] w fun e w' => e = .returned (.int .i64 (Sort.median ltInt d a b c s).1) ∧ BoxI w' sb (Sort.median ltInt d a b c s).2 ∧ Keep (fun x => x = sb) w w' := by
  have H := Lib.hid h
  have HS := Lib.hid hs
  clear h hs
  obtain ⟨r1, hr1⟩ : ∃ r, r = order2 ltInt d a b s := ⟨_, rfl⟩
  obtain ⟨r2, hr2⟩ : ∃ r, r = order2 ltInt d r1.2.1 c r1.2.2 := ⟨_, rfl⟩
  obtain ⟨r3, hr3⟩ : ∃ r, r = order2 ltInt d r1.1 r2.1 r2.2.2 := ⟨_, rfl⟩
  have hm : Sort.median ltInt d a b c s = (r3.2.1, r3.2.2) := by unfold Sort.median; simp only [← hr1, ← hr2, ← hr3]
  have l1 := order2_lt d s ha hb
  have s1 := order2_swaps d a b s
  rw [← hr1] at l1 s1
  have l2 := order2_lt d r1.2.2 l1.2 hc
  have s2 := order2_swaps d r1.2.1 c r1.2.2
  rw [← hr2] at l2 s2
  have H1 := Lib.hid hr1
  have H2 := Lib.hid hr2
  have H3 := Lib.hid hr3
  rw [hm]
  clear hr1 hr2 hr3 hm
  go_enter Try.func109, Try.ntmps109
  go_wp2_with fail
  refine (order2_u H.out HS.out cap a b ha hb hsz (by omega)).mono ?_
  rintro e w1 ⟨rfl, hb1, hk1⟩
  rw [← H1.out] at hb1 ⊢
  have HB1 := Lib.hid hb1
  have HK1 := Lib.hid hk1
  clear hb1 hk1
  go_wp2_with fail
  refine (order2_u (H.out.keep HK1.out hne) HB1.out cap r1.2.1 c l1.2 hc hsz (by omega)).mono ?_
  rintro e w2 ⟨rfl, hb1, hk1⟩
  rw [← H2.out] at hb1 ⊢
  have HB2 := Lib.hid hb1
  have HK2 := Lib.hid (HK1.out.trans hk1)
  clear hb1 hk1
  go_wp2_with fail
  refine (order2_u (H.out.keep HK2.out hne) HB2.out cap r1.1 r2.1 l1.1 l2.1 hsz (by omega)).mono ?_
  rintro e w3 ⟨rfl, hb1, hk1⟩
  rw [← H3.out] at hb1 ⊢
  have HB3 := Lib.hid hb1
  have HK3 := Lib.hid (HK2.out.trans hk1)
  clear hb1 hk1
  go_wp2_with fail
  go_ret
  exact ⟨rfl, HB3.out, HK3.out⟩

theorem median_i {w : World} {k sb s n : Nat} {d : Array Int} {rest : List Value} {ia ib ic : Int} (h : RowU w k d rest) (hs : BoxI w sb s) (hne : k ≠ sb) (hn : d.size = n) (cap a b c : Nat) (hia : ia = a) (hib : ib = b) (hic : ic = c) (ha : a < n) (hb : b < n) (hc : c < n) (hsz : n < 1000000000000) (hs1 : s < 900) :
    Calls Try.prog 109 #[.slice (some ⟨k, 0, none⟩) n cap, .int .i64 ia, .int .i64 ib, .int .i64 ic, .pointer (some ⟨sb, 0, none⟩)] w fun e w' => e = .returned (.int .i64 (Sort.median ltInt d a b c s).1) ∧ BoxI w' sb (Sort.median ltInt d a b c s).2 ∧ Keep (fun x => x = sb) w w' := by
  subst hn hia hib hic; exact median_u h hs hne cap a b c ha hb hc hsz hs1

set_option maxHeartbeats 1000000 in
theorem medadj_u {w : World} {k sb s : Nat} {d : Array Int} {rest : List Value} (h : RowU w k d rest) (hs : BoxI w sb s) (hne : k ≠ sb) (cap a : Nat) (ha0 : 1 ≤ a) (ha : a + 1 < d.size) (hsz : d.size < 1000000000000) (hs1 : s < 900) :
    Calls Try.prog 108 #[.slice (some ⟨k, 0, none⟩) d.size cap, .int .i64 a, .pointer (some ⟨sb, 0, none⟩)] w fun e w' => e = .returned (.int .i64 (medianAdjacent ltInt d a s).1) ∧ BoxI w' sb (medianAdjacent ltInt d a s).2 ∧ Keep (fun x => x = sb) w w' := by
  have H := Lib.hid h
  have HS := Lib.hid hs
  clear h hs
  obtain ⟨a', rfl⟩ : ∃ a', a = a' + 1 := ⟨a - 1, by omega⟩
  have hw1 : IntKind.i64.wrap (a' : Int) = (a' : Int) := IntWalk.i64_in _ (by omega)
  have hw2 : IntKind.i64.wrap (((a' + 1 : Nat) : Int) + 1) = ((a' + 1 : Nat) : Int) + 1 := IntWalk.i64_in _ (by omega)
  have hw3 : IntKind.i64.wrap ((a' : Int) + 1 + 1) = (a' : Int) + 1 + 1 := IntWalk.i64_in _ (by omega)
  have hm : medianAdjacent ltInt d (a' + 1) s = Sort.median ltInt d a' (a' + 1) (a' + 2) s := rfl
  rw [hm]
  go_enter Try.func108, Try.ntmps108
  go_wp2_with fail
  refine (median_u H.out HS.out hne cap a' (a' + 1) (a' + 2) (by omega) (by omega) (by omega) hsz hs1).mono ?_
  rintro e w1 ⟨rfl, hb1, hk1⟩
  have HB1 := Lib.hid hb1
  have HK1 := Lib.hid hk1
  clear hb1 hk1
  go_wp2_with fail
  go_ret
  exact ⟨rfl, HB1.out, HK1.out⟩
theorem medadj_i {w : World} {k sb s n : Nat} {d : Array Int} {rest : List Value} {ia : Int} (h : RowU w k d rest) (hs : BoxI w sb s) (hne : k ≠ sb) (hn : d.size = n) (cap a : Nat) (hia : ia = a) (ha0 : 1 ≤ a) (ha : a + 1 < n) (hsz : n < 1000000000000) (hs1 : s < 900) :
    Calls Try.prog 108 #[.slice (some ⟨k, 0, none⟩) n cap, .int .i64 ia, .pointer (some ⟨sb, 0, none⟩)] w fun e w' => e = .returned (.int .i64 (medianAdjacent ltInt d a s).1) ∧ BoxI w' sb (medianAdjacent ltInt d a s).2 ∧ Keep (fun x => x = sb) w w' := by
  subst hn hia; exact medadj_u h hs hne cap a ha0 ha hsz hs1
end Go.Proofs.Ytjdjfhioobhcjaa
