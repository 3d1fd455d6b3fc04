/-
  Contracts of package conf: rows.
-/
import Derived.Test.YtabanackdjlcmaaConf
namespace Go.Proofs.Ytabanackdjlcmaa
open Go.ChangeShapes Go.WideShapes Go.ChangeAt Go.RowKit Go.Maps
set_option maxRecDepth 100000

/-- May the row at a place be? -/
def rowOkAt (rs : Rw) (i : Nat) : Bool :=
  match rs[i]? with
  | none => true
  | some r => decide (0 ≤ r.1) && decide (r.1 < 8) && (i == 0 || decide ((rs.getD (i - 1) (0, [])).1 < r.1)) && decide (r.2.length ≤ 4) && decide (r.2.length ≤ (cutI r.2).length)
def rowsB (rs : Rw) : Bool := (List.range rs.length).all (rowOkAt rs)
theorem rowsB_true {rs : Rw} (h : ∀ i, i < rs.length → rowOkAt rs i = true) : rowsB rs = true := by
  unfold rowsB; rw [List.all_eq_true]; intro i hi; exact h i (by simpa using hi)
theorem rowsB_false {rs : Rw} {i : Nat} (hi : i < rs.length) (h : rowOkAt rs i = false) : rowsB rs = false := by
  unfold rowsB; rw [List.all_eq_false]; exact ⟨i, by simpa using hi, by rw [h]; simp⟩

theorem RowsL.at {w : World} {ao : Option Addr} {n c : Nat} {rs : Rw} (h : RowsL w (.slice ao n c) rs) (k : Nat) (r : Int × List Int) (hr : rs[k]? = some r) :
    ∃ a so sc, ao = some a ∧ w.cell? (a.add (k * 2)) = some (.int .i64 r.1) ∧ w.cell? ⟨(a.add (k * 2)).block, (a.add (k * 2)).off + 1, none⟩ = some (.slice so r.2.length sc) ∧ SlR w (.slice so r.2.length sc) (u64s r.2) ∧ r.2.length ≤ sc ∧ sc ≤ 9223372036854775807 := by
  obtain ⟨a', c', hv, _, _, hx⟩ := h
  cases hv
  obtain ⟨a, sv, ha, c0, c1, hs⟩ := hx k r hr
  obtain ⟨so, sc, e, h1, h2⟩ := hs.form
  simp only [List.length_map] at e h1
  subst e
  exact ⟨a, so, sc, ha, c0, c1, hs, h1, h2⟩

set_option maxHeartbeats 4000000 in
theorem rows_any {v : Value} {rs : Rw} {w : World} (hv : RowsL w v rs) (hl : rs.length ≤ 1000000) :
    Calls Try.prog 43 #[v] w fun e w' => e = .returned (.bool (rowsB rs)) ∧ Below w.heap.size w w' := by
  have HV := Lib.hid hv
  obtain ⟨ao, c, rfl, hc1, hc2, _⟩ := id hv
  obtain ⟨R, hR⟩ : ∃ R, R = rowsB rs := ⟨_, rfl⟩
  rw [← hR]
  have HR := Lib.hid hR
  clear hv hR
  go_enter Try.func43, Try.ntmps43
  go_wp2_with fail
  go_loopw [7, 3] (fun i _ wr => ∃ k : Nat, k ≤ rs.length ∧ i = .int .i64 k ∧ (∀ j, j < k → rowOkAt rs j = true) ∧ Below w.heap.size w wr) (fun i _ _ => rs.length - (intOf i).toNat)
  case atStart => exact ⟨0, by omega, rfl, fun j hj => by omega, Below.refl _ _⟩
  case round =>
    obtain ⟨k, hk, rfl, hok, hbl⟩ := hrel
    have HO := Lib.hid hok
    have HB := Lib.hid hbl
    clear hok hbl
    by_cases hlt : k < rs.length
    · have hk0 := List.getElem?_eq_getElem hlt
      obtain ⟨a, so, sc, rfl, q0, q1, hs, hs1, hs2⟩ := (HV.out.below HB.out (Nat.le_refl _)).at k _ hk0
      have hrow : rowOkAt rs k = (decide (0 ≤ rs[k].1) && decide (rs[k].1 < 8) && (k == 0 || decide ((rs.getD (k - 1) (0, [])).1 < rs[k].1)) && decide (rs[k].2.length ≤ 4) && decide (rs[k].2.length ≤ (cutI rs[k].2).length)) := by
        unfold rowOkAt; rw [hk0]
      have hprev : k = 0 ∨ ∃ k' p, k = k' + 1 ∧ (rs.getD (k - 1) (0, [])).1 = p ∧ wr.cell? (a.add (k' * 2)) = some (.int .i64 p) := by
        cases k with
        | zero => exact Or.inl rfl
        | succ k' =>
          right
          have h1 : k' < rs.length := by omega
          obtain ⟨a', _, _, ha, p0, _⟩ := (HV.out.below HB.out (Nat.le_refl _)).at k' _ (List.getElem?_eq_getElem h1)
          cases ha
          exact ⟨k', rs[k'].1, rfl, by simp [List.getD, h1], p0⟩
      generalize rs[k] = r at *
      obtain ⟨s, xs⟩ := r
      simp only at q0 q1 hs hs1 hrow
      have hcut := cutI_len xs
      have HRow := Lib.hid hrow
      have HS := Lib.hid hs
      have hA := (Below.refl wr.heap.size wr).alloc (Nat.le_refl _) (.cells #[.int .i64 s, .slice so xs.length sc] 37)
      have HBA := Lib.hid (HB.out.trans (hA.mono HB.out.size))
      have HSA := Lib.hid (HS.out.below hA (Nat.le_refl _))
      have hblk := heap_alloc_new wr (.cells #[.int .i64 s, .slice so xs.length sc] 37)
      have x0 : (wr.alloc (.cells #[.int .i64 s, .slice so xs.length sc] 37)).cell? ⟨wr.heap.size, 0, none⟩ = some (.int .i64 s) := World.news_of_block hblk 0 _ rfl
      have x1 : (wr.alloc (.cells #[.int .i64 s, .slice so xs.length sc] 37)).cell? ⟨wr.heap.size, 1, none⟩ = some (.slice so xs.length sc) := World.news_of_block hblk 1 _ rfl
      have hcell := fun {p : Addr} {v : Value} (h : wr.cell? p = some v) => (hA.cell (World.block_lt_of_cell? wr _ h)).trans h
      have hbadR : rowOkAt rs k = false → R = false := fun h => by rw [HR.out]; exact rowsB_false hlt h
      have HBad := Lib.hid hbadR
      have hgoodR : rowOkAt rs k = true → ∀ j, j < k + 1 → rowOkAt rs j = true := fun h j hj => by
        by_cases e : j = k
        · subst e; exact h
        · exact HO.out j (by omega)
      have HGood := Lib.hid hgoodR
      clear hs hrow hk0 hA hblk HS hbadR hgoodR
      have hrest : s < 0 ∨ (0 ≤ s ∧ 8 ≤ s) ∨ (0 ≤ s ∧ s < 8) := by omega
      have hrest2 : (4 < (xs.length : Int)) ∨ ((xs.length : Int) ≤ 4 ∧ (cutI xs).length < xs.length) ∨ ((xs.length : Int) ≤ 4 ∧ xs.length ≤ (cutI xs).length) := by omega
      rcases hprev with rfl | ⟨k', p, rfl, hp, hpc⟩
      · clear hcell
        have q0' : wr.cell? a = some (.int .i64 s) := by simpa [Addr.add] using q0
        have q1' : wr.cell? ⟨a.block, a.off + 1, none⟩ = some (.slice so xs.length sc) := by simpa [Addr.add] using q1
        clear q0 q1
        have hz0 : ((0 : Nat) : Int) = 0 := rfl
        have hz1 : decide ((0 : Int) < ((0 : Nat) : Int)) = false := rfl
        have hz2 : decide ((0 : Int) < 0) = false := rfl
        rcases hrest with h1 | ⟨h1, h2⟩ | ⟨h1, h2⟩
        · skip
          have hRf : R = false := HBad.out (by rw [HRow.out]; simp [h1]; try omega)
          have HRf := Lib.hid hRf
          clear hRf HRow HGood HBad
          have hd0 : decide (s < 0) = true := by first | exact decide_eq_true (by omega) | exact decide_eq_true (by show _; omega)
          go_wp2_with fail
          go_quiet (fail)
          go_wp2
          go_ret
          exact ⟨by rw [HRf.out]; rfl, below_drewN HBA.out _⟩
        · skip
          have hRf : R = false := HBad.out (by rw [HRow.out]; simp [h1, h2]; try omega)
          have HRf := Lib.hid hRf
          clear hRf HRow HGood HBad
          have hd0 : decide (s < 0) = false := by first | exact decide_eq_false (by omega) | exact decide_eq_false (by show _; omega)
          have hd1 : decide (8 ≤ s) = true := by first | exact decide_eq_true (by omega) | exact decide_eq_true (by show _; omega)
          go_wp2_with fail
          go_quiet (fail)
          go_wp2
          go_ret
          exact ⟨by rw [HRf.out]; rfl, below_drewN HBA.out _⟩
        · skip
          rcases hrest2 with g1 | ⟨g1, g2⟩ | ⟨g1, g2⟩
          · skip
            have hRf : R = false := HBad.out (by rw [HRow.out]; simp [h1, h2, g1]; try omega)
            have HRf := Lib.hid hRf
            clear hRf HRow HGood HBad
            have hd0 : decide (s < 0) = false := by first | exact decide_eq_false (by omega) | exact decide_eq_false (by show _; omega)
            have hd1 : decide (8 ≤ s) = false := by first | exact decide_eq_false (by omega) | exact decide_eq_false (by show _; omega)
            have hd3 : decide (4 < (xs.length : Int)) = true := by first | exact decide_eq_true (by omega) | exact decide_eq_true (by show _; omega)
            go_wp2_with fail
            go_quiet (fail)
            go_wp2
            go_ret
            exact ⟨by rw [HRf.out]; rfl, below_drewN HBA.out _⟩
          · skip
            have hS0 : (wr.alloc (.cells #[.int .i64 s, .slice so xs.length sc] 37)).drew.cell? ⟨wr.heap.size, 0, none⟩ = some (.int .i64 s) ∧ (wr.alloc (.cells #[.int .i64 s, .slice so xs.length sc] 37)).drew.cell? ⟨wr.heap.size, 1, none⟩ = some (.slice so xs.length sc) := ⟨x0, x1⟩
            have HSd := Lib.hid (HSA.out.below (Below.refl _ (wr.alloc (.cells #[.int .i64 s, .slice so xs.length sc] 37))).drew (Nat.le_refl _))
            have hS1' : ∀ wm : World, Below (wr.alloc (.cells #[.int .i64 s, .slice so xs.length sc] 37)).drew.heap.size (wr.alloc (.cells #[.int .i64 s, .slice so xs.length sc] 37)).drew wm → (wm.cell? ⟨wr.heap.size, 0, none⟩ = some (.int .i64 s) ∧ wm.cell? ⟨wr.heap.size, 1, none⟩ = some (.slice so xs.length sc)) := fun wm hb => ⟨(hb.cell (World.block_lt_of_cell? _ _ hS0.1)).trans hS0.1, (hb.cell (World.block_lt_of_cell? _ _ hS0.2)).trans hS0.2⟩
            have HS1 := Lib.hid hS1'
            clear hS1'
            have hci : ((cutI xs).length : Int) < (xs.length : Int) := by omega
            have hRf : R = false := HBad.out (by rw [HRow.out]; simp [h1, h2, g1, g2]; try omega)
            have HRf := Lib.hid hRf
            clear hRf HRow HGood HBad
            have hd0 : decide (s < 0) = false := by first | exact decide_eq_false (by omega) | exact decide_eq_false (by show _; omega)
            have hd1 : decide (8 ≤ s) = false := by first | exact decide_eq_false (by omega) | exact decide_eq_false (by show _; omega)
            have hd3 : decide (4 < (xs.length : Int)) = false := by first | exact decide_eq_false (by omega) | exact decide_eq_false (by show _; omega)
            have hd4 : decide (((cutI xs).length : Int) < (xs.length : Int)) = true := decide_eq_true (by omega)
            go_wp2_with fail
            refine wp_region_noPanic ?_
            refine wp_region_held_drew (S := (fun w' => w'.cell? ⟨wr.heap.size, 0, none⟩ = some (.int .i64 s) ∧ w'.cell? ⟨wr.heap.size, 1, none⟩ = some (.slice so xs.length sc))) (by kernel_rfl) hS0 (fun hHeld => ?_)
            refine wpAnyH_take (i := 0) (v := ?_) (by simp only [List.getElem?_toArray, List.getElem?_cons_succ, List.getElem?_cons_zero]; rfl) (by kernel_rfl) (by kernel_rfl) (by kernel_rfl) (fun _ _ _ h => h) (Or.inl ⟨by rfl, ?_⟩) (by assumption) ?_
            rotate_left
            · intro w hSw
              (try dsimp only at hSw)
              go_simp
              first | done | with_reducible rfl
            (try simp only [Act.put, List.setIfInBounds_toArray, List.set_cons_zero, List.set_cons_succ])
            refine wpAnyH_take (i := 1) (v := ?_) (by simp only [List.getElem?_toArray, List.getElem?_cons_succ, List.getElem?_cons_zero]; rfl) (by kernel_rfl) (by kernel_rfl) (by kernel_rfl) (fun _ _ _ h => h) (Or.inl ⟨by rfl, ?_⟩) (by assumption) ?_
            rotate_left
            · intro w hSw
              (try dsimp only at hSw)
              go_simp
              first | done | with_reducible rfl
            (try simp only [Act.put, List.setIfInBounds_toArray, List.set_cons_zero, List.set_cons_succ])
            refine wpAnyH_take (i := 2) (v := ?_) (by simp only [List.getElem?_toArray, List.getElem?_cons_succ, List.getElem?_cons_zero]; rfl) (by kernel_rfl) (by kernel_rfl) (by kernel_rfl) (fun _ _ _ h => h) (Or.inl ⟨by rfl, ?_⟩) (by assumption) ?_
            rotate_left
            · intro w hSw
              (try dsimp only at hSw)
              go_simp
              first | done | with_reducible rfl
            (try simp only [Act.put, List.setIfInBounds_toArray, List.set_cons_zero, List.set_cons_succ])
            refine wpAnyH_take (i := 3) (v := ?_) (by simp only [List.getElem?_toArray, List.getElem?_cons_succ, List.getElem?_cons_zero]; rfl) (by kernel_rfl) (by kernel_rfl) (by kernel_rfl) (fun _ _ _ h => h) (Or.inl ⟨by rfl, ?_⟩) (by assumption) ?_
            rotate_left
            · intro w hSw
              (try dsimp only at hSw)
              go_simp
              first | done | with_reducible rfl
            (try simp only [Act.put, List.setIfInBounds_toArray, List.set_cons_zero, List.set_cons_succ])
            refine wpAnyH_take (i := 4) (v := ?_) (by simp only [List.getElem?_toArray, List.getElem?_cons_succ, List.getElem?_cons_zero]; rfl) (by kernel_rfl) (by kernel_rfl) (by kernel_rfl) (fun _ _ _ h => h) (Or.inl ⟨by rfl, ?_⟩) (by assumption) ?_
            rotate_left
            · intro w hSw
              (try dsimp only at hSw)
              go_simp
              first | done | with_reducible rfl
            (try simp only [Act.put, List.setIfInBounds_toArray, List.set_cons_zero, List.set_cons_succ])
            refine wpAnyH_take (i := 5) (v := ?_) (by simp only [List.getElem?_toArray, List.getElem?_cons_succ, List.getElem?_cons_zero]; rfl) (by kernel_rfl) (by kernel_rfl) (by kernel_rfl) (fun _ _ _ h => h) (Or.inl ⟨by rfl, ?_⟩) (by assumption) ?_
            rotate_left
            · intro w hSw
              (try dsimp only at hSw)
              go_simp
              first | done | with_reducible rfl
            (try simp only [Act.put, List.setIfInBounds_toArray, List.set_cons_zero, List.set_cons_succ])
            refine wpAnyH_take (i := 6) (v := ?_) (by simp only [List.getElem?_toArray, List.getElem?_cons_succ, List.getElem?_cons_zero]; rfl) (by kernel_rfl) (by kernel_rfl) (by kernel_rfl) (fun _ _ _ h => h) (Or.inl ⟨by rfl, ?_⟩) (by assumption) ?_
            rotate_left
            · intro w hSw
              (try dsimp only at hSw)
              go_simp
              first | done | with_reducible rfl
            (try simp only [Act.put, List.setIfInBounds_toArray, List.set_cons_zero, List.set_cons_succ])
            refine wpAnyH_take (i := 7) (v := ?_) (by simp only [List.getElem?_toArray, List.getElem?_cons_succ, List.getElem?_cons_zero]; rfl) (by kernel_rfl) (by kernel_rfl) (by kernel_rfl) (fun _ _ _ h => h) (Or.inl ⟨by rfl, ?_⟩) (by assumption) ?_
            rotate_left
            · intro w hSw
              (try dsimp only at hSw)
              go_simp
              first | done | with_reducible rfl
            (try simp only [Act.put, List.setIfInBounds_toArray, List.set_cons_zero, List.set_cons_succ])
            refine wpAnyH_take (i := 8) (v := ?_) (by simp only [List.getElem?_toArray, List.getElem?_cons_succ, List.getElem?_cons_zero]; rfl) (by kernel_rfl) (by kernel_rfl) (by kernel_rfl) (fun _ _ _ h => h) (Or.inl ⟨by rfl, ?_⟩) (by assumption) ?_
            rotate_left
            · intro w hSw
              (try dsimp only at hSw)
              go_simp
              first | done | with_reducible rfl
            (try simp only [Act.put, List.setIfInBounds_toArray, List.set_cons_zero, List.set_cons_succ])
            refine wpAnyH_take (i := 9) (v := ?_) (by simp only [List.getElem?_toArray, List.getElem?_cons_succ, List.getElem?_cons_zero]; rfl) (by kernel_rfl) (by kernel_rfl) (by kernel_rfl) (fun _ _ _ h => h) (Or.inl ⟨by rfl, ?_⟩) (by assumption) ?_
            rotate_left
            · intro w hSw
              (try dsimp only at hSw)
              go_simp
              first | done | with_reducible rfl
            (try simp only [Act.put, List.setIfInBounds_toArray, List.set_cons_zero, List.set_cons_succ])
            refine wpAnyH_take (i := 10) (v := ?_) (by simp only [List.getElem?_toArray, List.getElem?_cons_succ, List.getElem?_cons_zero]; rfl) (by kernel_rfl) (by kernel_rfl) (by kernel_rfl) (fun _ _ _ h => h) (Or.inl ⟨by rfl, ?_⟩) (by assumption) ?_
            rotate_left
            · intro w hSw
              (try dsimp only at hSw)
              go_simp
              first | done | with_reducible rfl
            (try simp only [Act.put, List.setIfInBounds_toArray, List.set_cons_zero, List.set_cons_succ])
            refine wpAnyH_take (i := 11) (v := ?_) (by simp only [List.getElem?_toArray, List.getElem?_cons_succ, List.getElem?_cons_zero]; rfl) (by kernel_rfl) (by kernel_rfl) (by kernel_rfl) (fun _ _ _ h => h) (Or.inl ⟨by rfl, ?_⟩) (by assumption) ?_
            rotate_left
            · intro w hSw
              (try dsimp only at hSw)
              go_simp
              first | done | with_reducible rfl
            (try simp only [Act.put, List.setIfInBounds_toArray, List.set_cons_zero, List.set_cons_succ])
            refine wpAnyH_take (i := 12) (v := undef) (by simp only [List.getElem?_toArray, List.getElem?_cons_succ, List.getElem?_cons_zero]; rfl) (by kernel_rfl) (by kernel_rfl) (by kernel_rfl) (fun _ _ _ h => h) (Or.inr ⟨by rfl, rfl⟩) (by assumption) ?_
            (try simp only [Act.put, List.setIfInBounds_toArray, List.set_cons_zero, List.set_cons_succ])
            refine wpAnyH_take (i := 13) (v := undef) (by simp only [List.getElem?_toArray, List.getElem?_cons_succ, List.getElem?_cons_zero]; rfl) (by kernel_rfl) (by kernel_rfl) (by kernel_rfl) (fun _ _ _ h => h) (Or.inr ⟨by rfl, rfl⟩) (by assumption) ?_
            (try simp only [Act.put, List.setIfInBounds_toArray, List.set_cons_zero, List.set_cons_succ])
            refine wpAnyH_take (i := 14) (v := undef) (by simp only [List.getElem?_toArray, List.getElem?_cons_succ, List.getElem?_cons_zero]; rfl) (by kernel_rfl) (by kernel_rfl) (by kernel_rfl) (fun _ _ _ h => h) (Or.inr ⟨by rfl, rfl⟩) (by assumption) ?_
            (try simp only [Act.put, List.setIfInBounds_toArray, List.set_cons_zero, List.set_cons_succ])
            refine wpAnyH_take (i := 15) (v := undef) (by simp only [List.getElem?_toArray, List.getElem?_cons_succ, List.getElem?_cons_zero]; rfl) (by kernel_rfl) (by kernel_rfl) (by kernel_rfl) (fun _ _ _ h => h) (Or.inr ⟨by rfl, rfl⟩) (by assumption) ?_
            (try simp only [Act.put, List.setIfInBounds_toArray, List.set_cons_zero, List.set_cons_succ])
            refine wpAnyH_take (i := 16) (v := undef) (by simp only [List.getElem?_toArray, List.getElem?_cons_succ, List.getElem?_cons_zero]; rfl) (by kernel_rfl) (by kernel_rfl) (by kernel_rfl) (fun _ _ _ h => h) (Or.inr ⟨by rfl, rfl⟩) (by assumption) ?_
            (try simp only [Act.put, List.setIfInBounds_toArray, List.set_cons_zero, List.set_cons_succ])
            refine wpAnyH_take (i := 17) (v := undef) (by simp only [List.getElem?_toArray, List.getElem?_cons_succ, List.getElem?_cons_zero]; rfl) (by kernel_rfl) (by kernel_rfl) (by kernel_rfl) (fun _ _ _ h => h) (Or.inr ⟨by rfl, rfl⟩) (by assumption) ?_
            (try simp only [Act.put, List.setIfInBounds_toArray, List.set_cons_zero, List.set_cons_succ])
            refine wpAnyH_take (i := 18) (v := undef) (by simp only [List.getElem?_toArray, List.getElem?_cons_succ, List.getElem?_cons_zero]; rfl) (by kernel_rfl) (by kernel_rfl) (by kernel_rfl) (fun _ _ _ h => h) (Or.inr ⟨by rfl, rfl⟩) (by assumption) ?_
            (try simp only [Act.put, List.setIfInBounds_toArray, List.set_cons_zero, List.set_cons_succ])
            refine wpAnyH_take (i := 19) (v := undef) (by simp only [List.getElem?_toArray, List.getElem?_cons_succ, List.getElem?_cons_zero]; rfl) (by kernel_rfl) (by kernel_rfl) (by kernel_rfl) (fun _ _ _ h => h) (Or.inr ⟨by rfl, rfl⟩) (by assumption) ?_
            (try simp only [Act.put, List.setIfInBounds_toArray, List.set_cons_zero, List.set_cons_succ])
            refine wpAnyH_take (i := 20) (v := undef) (by simp only [List.getElem?_toArray, List.getElem?_cons_succ, List.getElem?_cons_zero]; rfl) (by kernel_rfl) (by kernel_rfl) (by kernel_rfl) (fun _ _ _ h => h) (Or.inr ⟨by rfl, rfl⟩) (by assumption) ?_
            (try simp only [Act.put, List.setIfInBounds_toArray, List.set_cons_zero, List.set_cons_succ])
            refine wpAnyH_take (i := 21) (v := ?_) (by simp only [List.getElem?_toArray, List.getElem?_cons_succ, List.getElem?_cons_zero]; rfl) (by kernel_rfl) (by kernel_rfl) (by kernel_rfl) (fun _ _ _ h => h) (Or.inl ⟨by rfl, ?_⟩) (by assumption) ?_
            rotate_left
            · intro w hSw
              (try dsimp only at hSw)
              go_simp
              first | done | with_reducible rfl
            (try simp only [Act.put, List.setIfInBounds_toArray, List.set_cons_zero, List.set_cons_succ])
            refine wpAnyH_take (i := 22) (v := ?_) (by simp only [List.getElem?_toArray, List.getElem?_cons_succ, List.getElem?_cons_zero]; rfl) (by kernel_rfl) (by kernel_rfl) (by kernel_rfl) (fun _ _ _ h => h) (Or.inl ⟨by rfl, ?_⟩) (by assumption) ?_
            rotate_left
            · intro w hSw
              (try dsimp only at hSw)
              go_simp
              first | done | with_reducible rfl
            (try simp only [Act.put, List.setIfInBounds_toArray, List.set_cons_zero, List.set_cons_succ])
            refine wpAnyH_take (i := 23) (v := ?_) (by simp only [List.getElem?_toArray, List.getElem?_cons_succ, List.getElem?_cons_zero]; rfl) (by kernel_rfl) (by kernel_rfl) (by kernel_rfl) (fun _ _ _ h => h) (Or.inl ⟨by rfl, ?_⟩) (by assumption) ?_
            rotate_left
            · intro w hSw
              (try dsimp only at hSw)
              go_simp
              first | done | with_reducible rfl
            (try simp only [Act.put, List.setIfInBounds_toArray, List.set_cons_zero, List.set_cons_succ])
            refine wpAnyH_take (i := 24) (v := ?_) (by simp only [List.getElem?_toArray, List.getElem?_cons_succ, List.getElem?_cons_zero]; rfl) (by kernel_rfl) (by kernel_rfl) (by kernel_rfl) (fun _ _ _ h => h) (Or.inl ⟨by rfl, ?_⟩) (by assumption) ?_
            rotate_left
            · intro w hSw
              (try dsimp only at hSw)
              go_simp
              first | done | with_reducible rfl
            (try simp only [Act.put, List.setIfInBounds_toArray, List.set_cons_zero, List.set_cons_succ])
            refine wpAnyH_take (i := 25) (v := ?_) (by simp only [List.getElem?_toArray, List.getElem?_cons_succ, List.getElem?_cons_zero]; rfl) (by kernel_rfl) (by kernel_rfl) (by kernel_rfl) (fun _ _ _ h => h) (Or.inl ⟨by rfl, ?_⟩) (by assumption) ?_
            rotate_left
            · intro w hSw
              (try dsimp only at hSw)
              go_simp
              first | done | with_reducible rfl
            (try simp only [Act.put, List.setIfInBounds_toArray, List.set_cons_zero, List.set_cons_succ])
            refine wpAnyH_take (i := 26) (v := ?_) (by simp only [List.getElem?_toArray, List.getElem?_cons_succ, List.getElem?_cons_zero]; rfl) (by kernel_rfl) (by kernel_rfl) (by kernel_rfl) (fun _ _ _ h => h) (Or.inl ⟨by rfl, ?_⟩) (by assumption) ?_
            rotate_left
            · intro w hSw
              (try dsimp only at hSw)
              go_simp
              first | done | with_reducible rfl
            (try simp only [Act.put, List.setIfInBounds_toArray, List.set_cons_zero, List.set_cons_succ])
            refine wpAnyH_take (i := 27) (v := ?_) (by simp only [List.getElem?_toArray, List.getElem?_cons_succ, List.getElem?_cons_zero]; rfl) (by kernel_rfl) (by kernel_rfl) (by kernel_rfl) (fun _ _ _ h => h) (Or.inl ⟨by rfl, ?_⟩) (by assumption) ?_
            rotate_left
            · intro w hSw
              (try dsimp only at hSw)
              go_simp
              first | done | with_reducible rfl
            (try simp only [Act.put, List.setIfInBounds_toArray, List.set_cons_zero, List.set_cons_succ])
            refine wpAnyH_take (i := 28) (v := ?_) (by simp only [List.getElem?_toArray, List.getElem?_cons_succ, List.getElem?_cons_zero]; rfl) (by kernel_rfl) (by kernel_rfl) (by kernel_rfl) (fun _ _ _ h => h) (Or.inl ⟨by rfl, ?_⟩) (by assumption) ?_
            rotate_left
            · intro w hSw
              (try dsimp only at hSw)
              go_simp
              first | done | with_reducible rfl
            (try simp only [Act.put, List.setIfInBounds_toArray, List.set_cons_zero, List.set_cons_succ])
            refine wpAnyH_take (i := 29) (v := ?_) (by simp only [List.getElem?_toArray, List.getElem?_cons_succ, List.getElem?_cons_zero]; rfl) (by kernel_rfl) (by kernel_rfl) (by kernel_rfl) (fun _ _ _ h => h) (Or.inl ⟨by rfl, ?_⟩) (by assumption) ?_
            rotate_left
            · intro w hSw
              (try dsimp only at hSw)
              go_simp
              first | done | with_reducible rfl
            (try simp only [Act.put, List.setIfInBounds_toArray, List.set_cons_zero, List.set_cons_succ])
            refine wpAnyH_take (i := 30) (v := ?_) (by simp only [List.getElem?_toArray, List.getElem?_cons_succ, List.getElem?_cons_zero]; rfl) (by kernel_rfl) (by kernel_rfl) (by kernel_rfl) (fun _ _ _ h => h) (Or.inl ⟨by rfl, ?_⟩) (by assumption) ?_
            rotate_left
            · intro w hSw
              (try dsimp only at hSw)
              go_simp
              first | done | with_reducible rfl
            (try simp only [Act.put, List.setIfInBounds_toArray, List.set_cons_zero, List.set_cons_succ])
            refine wpAnyH_take (i := 31) (v := ?_) (by simp only [List.getElem?_toArray, List.getElem?_cons_succ, List.getElem?_cons_zero]; rfl) (by kernel_rfl) (by kernel_rfl) (by kernel_rfl) (fun _ _ _ h => h) (Or.inl ⟨by rfl, ?_⟩) (by assumption) ?_
            rotate_left
            · intro w hSw
              (try dsimp only at hSw)
              go_simp
              first | done | with_reducible rfl
            (try simp only [Act.put, List.setIfInBounds_toArray, List.set_cons_zero, List.set_cons_succ])
            refine wpAnyH_take (i := 34) (v := ?_) (by simp only [List.getElem?_toArray, List.getElem?_cons_succ, List.getElem?_cons_zero]; rfl) (by kernel_rfl) (by kernel_rfl) (by kernel_rfl) (fun _ _ _ h => h) (Or.inl ⟨by rfl, ?_⟩) (by assumption) ?_
            rotate_left
            · intro w hSw
              (try dsimp only at hSw)
              go_simp
              first | done | with_reducible rfl
            (try simp only [Act.put, List.setIfInBounds_toArray, List.set_cons_zero, List.set_cons_succ])
            refine wpAnyH_take (i := 35) (v := ?_) (by simp only [List.getElem?_toArray, List.getElem?_cons_succ, List.getElem?_cons_zero]; rfl) (by kernel_rfl) (by kernel_rfl) (by kernel_rfl) (fun _ _ _ h => h) (Or.inl ⟨by rfl, ?_⟩) (by assumption) ?_
            rotate_left
            · intro w hSw
              (try dsimp only at hSw)
              go_simp
              first | done | with_reducible rfl
            (try simp only [Act.put, List.setIfInBounds_toArray, List.set_cons_zero, List.set_cons_succ])
            refine wpAnyH_take (i := 36) (v := ?_) (by simp only [List.getElem?_toArray, List.getElem?_cons_succ, List.getElem?_cons_zero]; rfl) (by kernel_rfl) (by kernel_rfl) (by kernel_rfl) (fun _ _ _ h => h) (Or.inl ⟨by rfl, ?_⟩) (by assumption) ?_
            rotate_left
            · intro w hSw
              (try dsimp only at hSw)
              go_simp
              first | done | with_reducible rfl
            (try simp only [Act.put, List.setIfInBounds_toArray, List.set_cons_zero, List.set_cons_succ])
            refine wpAnyH_ready (rs := [32]) (by kernel_rfl) (by simp) ?_
            refine AllReadyH.cons rfl (fun K hK => ?_) AllReadyH.nil
            go_simp
            (go_at_call 30)
            refine (cut_any HSd.out (by omega)).mono ?_
            rintro e wm ⟨vm, rfl, hown, hbx⟩
            have hS1 := HS1.out wm hbx
            obtain ⟨vo, vc, hve, hvc1, hvc2⟩ := (SlR.of_own hown).form
            simp only [List.length_map] at hve hvc1
            subst hve
            have hbx := Lib.hid hbx
            clear hown
            (try dsimp only)
            refine hK.out _ _ hS1 (fun hHeld2 => ?_)
            clear hK
            (try simp only [Act.put, List.setIfInBounds_toArray, List.set_cons_zero, List.set_cons_succ])
            refine wpAnyH_take (i := 33) (v := ?_) (by simp only [List.getElem?_toArray, List.getElem?_cons_succ, List.getElem?_cons_zero]; rfl) (by kernel_rfl) (by kernel_rfl) (by kernel_rfl) (fun _ _ _ h => h) (Or.inl ⟨by rfl, ?_⟩) (by assumption) ?_
            rotate_left
            · intro w hSw
              (try dsimp only at hSw)
              go_simp
              first | done | with_reducible rfl
            (try simp only [Act.put, List.setIfInBounds_toArray, List.set_cons_zero, List.set_cons_succ])
            refine wpAnyH_take (i := 37) (v := ?_) (by simp only [List.getElem?_toArray, List.getElem?_cons_succ, List.getElem?_cons_zero]; rfl) (by kernel_rfl) (by kernel_rfl) (by kernel_rfl) (fun _ _ _ h => h) (Or.inl ⟨by rfl, ?_⟩) (by assumption) ?_
            rotate_left
            · intro w hSw
              (try dsimp only at hSw)
              go_simp
              first | done | with_reducible rfl
            (try simp only [Act.put, List.setIfInBounds_toArray, List.set_cons_zero, List.set_cons_succ])
            refine wpAnyH_take (i := 38) (v := ?_) (by simp only [List.getElem?_toArray, List.getElem?_cons_succ, List.getElem?_cons_zero]; rfl) (by kernel_rfl) (by kernel_rfl) (by kernel_rfl) (fun _ _ _ h => h) (Or.inl ⟨by rfl, ?_⟩) (by assumption) ?_
            rotate_left
            · intro w hSw
              (try dsimp only at hSw)
              go_simp
              first | done | with_reducible rfl
            (try simp only [Act.put, List.setIfInBounds_toArray, List.set_cons_zero, List.set_cons_succ])
            refine wpAnyH_done (by kernel_rfl) ?_ _
            refine NoPanic.normal ?_
            go_wp2
            go_ret
            exact ⟨by rw [HRf.out]; rfl, HBA.out.trans ((Below.refl _ _).drew.trans (hbx.out.mono HBA.out.size))⟩
          · skip
            have hS0 : (wr.alloc (.cells #[.int .i64 s, .slice so xs.length sc] 37)).drew.cell? ⟨wr.heap.size, 0, none⟩ = some (.int .i64 s) ∧ (wr.alloc (.cells #[.int .i64 s, .slice so xs.length sc] 37)).drew.cell? ⟨wr.heap.size, 1, none⟩ = some (.slice so xs.length sc) := ⟨x0, x1⟩
            have HSd := Lib.hid (HSA.out.below (Below.refl _ (wr.alloc (.cells #[.int .i64 s, .slice so xs.length sc] 37))).drew (Nat.le_refl _))
            have hS1' : ∀ wm : World, Below (wr.alloc (.cells #[.int .i64 s, .slice so xs.length sc] 37)).drew.heap.size (wr.alloc (.cells #[.int .i64 s, .slice so xs.length sc] 37)).drew wm → (wm.cell? ⟨wr.heap.size, 0, none⟩ = some (.int .i64 s) ∧ wm.cell? ⟨wr.heap.size, 1, none⟩ = some (.slice so xs.length sc)) := fun wm hb => ⟨(hb.cell (World.block_lt_of_cell? _ _ hS0.1)).trans hS0.1, (hb.cell (World.block_lt_of_cell? _ _ hS0.2)).trans hS0.2⟩
            have HS1 := Lib.hid hS1'
            clear hS1'
            have hci : (xs.length : Int) ≤ ((cutI xs).length : Int) := by omega
            have hgd := HGood.out (by rw [HRow.out]; simp [h1, h2, g1, g2]; try omega)
            have HGd := Lib.hid hgd
            clear hgd HRow HGood HBad
            have hd0 : decide (s < 0) = false := by first | exact decide_eq_false (by omega) | exact decide_eq_false (by show _; omega)
            have hd1 : decide (8 ≤ s) = false := by first | exact decide_eq_false (by omega) | exact decide_eq_false (by show _; omega)
            have hd3 : decide (4 < (xs.length : Int)) = false := by first | exact decide_eq_false (by omega) | exact decide_eq_false (by show _; omega)
            have hd4 : decide (((cutI xs).length : Int) < (xs.length : Int)) = false := decide_eq_false (by omega)
            go_wp2_with fail
            refine wp_region_noPanic ?_
            refine wp_region_held_drew (S := (fun w' => w'.cell? ⟨wr.heap.size, 0, none⟩ = some (.int .i64 s) ∧ w'.cell? ⟨wr.heap.size, 1, none⟩ = some (.slice so xs.length sc))) (by kernel_rfl) hS0 (fun hHeld => ?_)
            refine wpAnyH_take (i := 0) (v := ?_) (by simp only [List.getElem?_toArray, List.getElem?_cons_succ, List.getElem?_cons_zero]; rfl) (by kernel_rfl) (by kernel_rfl) (by kernel_rfl) (fun _ _ _ h => h) (Or.inl ⟨by rfl, ?_⟩) (by assumption) ?_
            rotate_left
            · intro w hSw
              (try dsimp only at hSw)
              go_simp
              first | done | with_reducible rfl
            (try simp only [Act.put, List.setIfInBounds_toArray, List.set_cons_zero, List.set_cons_succ])
            refine wpAnyH_take (i := 1) (v := ?_) (by simp only [List.getElem?_toArray, List.getElem?_cons_succ, List.getElem?_cons_zero]; rfl) (by kernel_rfl) (by kernel_rfl) (by kernel_rfl) (fun _ _ _ h => h) (Or.inl ⟨by rfl, ?_⟩) (by assumption) ?_
            rotate_left
            · intro w hSw
              (try dsimp only at hSw)
              go_simp
              first | done | with_reducible rfl
            (try simp only [Act.put, List.setIfInBounds_toArray, List.set_cons_zero, List.set_cons_succ])
            refine wpAnyH_take (i := 2) (v := ?_) (by simp only [List.getElem?_toArray, List.getElem?_cons_succ, List.getElem?_cons_zero]; rfl) (by kernel_rfl) (by kernel_rfl) (by kernel_rfl) (fun _ _ _ h => h) (Or.inl ⟨by rfl, ?_⟩) (by assumption) ?_
            rotate_left
            · intro w hSw
              (try dsimp only at hSw)
              go_simp
              first | done | with_reducible rfl
            (try simp only [Act.put, List.setIfInBounds_toArray, List.set_cons_zero, List.set_cons_succ])
            refine wpAnyH_take (i := 3) (v := ?_) (by simp only [List.getElem?_toArray, List.getElem?_cons_succ, List.getElem?_cons_zero]; rfl) (by kernel_rfl) (by kernel_rfl) (by kernel_rfl) (fun _ _ _ h => h) (Or.inl ⟨by rfl, ?_⟩) (by assumption) ?_
            rotate_left
            · intro w hSw
              (try dsimp only at hSw)
              go_simp
              first | done | with_reducible rfl
            (try simp only [Act.put, List.setIfInBounds_toArray, List.set_cons_zero, List.set_cons_succ])
            refine wpAnyH_take (i := 4) (v := ?_) (by simp only [List.getElem?_toArray, List.getElem?_cons_succ, List.getElem?_cons_zero]; rfl) (by kernel_rfl) (by kernel_rfl) (by kernel_rfl) (fun _ _ _ h => h) (Or.inl ⟨by rfl, ?_⟩) (by assumption) ?_
            rotate_left
            · intro w hSw
              (try dsimp only at hSw)
              go_simp
              first | done | with_reducible rfl
            (try simp only [Act.put, List.setIfInBounds_toArray, List.set_cons_zero, List.set_cons_succ])
            refine wpAnyH_take (i := 5) (v := ?_) (by simp only [List.getElem?_toArray, List.getElem?_cons_succ, List.getElem?_cons_zero]; rfl) (by kernel_rfl) (by kernel_rfl) (by kernel_rfl) (fun _ _ _ h => h) (Or.inl ⟨by rfl, ?_⟩) (by assumption) ?_
            rotate_left
            · intro w hSw
              (try dsimp only at hSw)
              go_simp
              first | done | with_reducible rfl
            (try simp only [Act.put, List.setIfInBounds_toArray, List.set_cons_zero, List.set_cons_succ])
            refine wpAnyH_take (i := 6) (v := ?_) (by simp only [List.getElem?_toArray, List.getElem?_cons_succ, List.getElem?_cons_zero]; rfl) (by kernel_rfl) (by kernel_rfl) (by kernel_rfl) (fun _ _ _ h => h) (Or.inl ⟨by rfl, ?_⟩) (by assumption) ?_
            rotate_left
            · intro w hSw
              (try dsimp only at hSw)
              go_simp
              first | done | with_reducible rfl
            (try simp only [Act.put, List.setIfInBounds_toArray, List.set_cons_zero, List.set_cons_succ])
            refine wpAnyH_take (i := 7) (v := ?_) (by simp only [List.getElem?_toArray, List.getElem?_cons_succ, List.getElem?_cons_zero]; rfl) (by kernel_rfl) (by kernel_rfl) (by kernel_rfl) (fun _ _ _ h => h) (Or.inl ⟨by rfl, ?_⟩) (by assumption) ?_
            rotate_left
            · intro w hSw
              (try dsimp only at hSw)
              go_simp
              first | done | with_reducible rfl
            (try simp only [Act.put, List.setIfInBounds_toArray, List.set_cons_zero, List.set_cons_succ])
            refine wpAnyH_take (i := 8) (v := ?_) (by simp only [List.getElem?_toArray, List.getElem?_cons_succ, List.getElem?_cons_zero]; rfl) (by kernel_rfl) (by kernel_rfl) (by kernel_rfl) (fun _ _ _ h => h) (Or.inl ⟨by rfl, ?_⟩) (by assumption) ?_
            rotate_left
            · intro w hSw
              (try dsimp only at hSw)
              go_simp
              first | done | with_reducible rfl
            (try simp only [Act.put, List.setIfInBounds_toArray, List.set_cons_zero, List.set_cons_succ])
            refine wpAnyH_take (i := 9) (v := ?_) (by simp only [List.getElem?_toArray, List.getElem?_cons_succ, List.getElem?_cons_zero]; rfl) (by kernel_rfl) (by kernel_rfl) (by kernel_rfl) (fun _ _ _ h => h) (Or.inl ⟨by rfl, ?_⟩) (by assumption) ?_
            rotate_left
            · intro w hSw
              (try dsimp only at hSw)
              go_simp
              first | done | with_reducible rfl
            (try simp only [Act.put, List.setIfInBounds_toArray, List.set_cons_zero, List.set_cons_succ])
            refine wpAnyH_take (i := 10) (v := ?_) (by simp only [List.getElem?_toArray, List.getElem?_cons_succ, List.getElem?_cons_zero]; rfl) (by kernel_rfl) (by kernel_rfl) (by kernel_rfl) (fun _ _ _ h => h) (Or.inl ⟨by rfl, ?_⟩) (by assumption) ?_
            rotate_left
            · intro w hSw
              (try dsimp only at hSw)
              go_simp
              first | done | with_reducible rfl
            (try simp only [Act.put, List.setIfInBounds_toArray, List.set_cons_zero, List.set_cons_succ])
            refine wpAnyH_take (i := 11) (v := ?_) (by simp only [List.getElem?_toArray, List.getElem?_cons_succ, List.getElem?_cons_zero]; rfl) (by kernel_rfl) (by kernel_rfl) (by kernel_rfl) (fun _ _ _ h => h) (Or.inl ⟨by rfl, ?_⟩) (by assumption) ?_
            rotate_left
            · intro w hSw
              (try dsimp only at hSw)
              go_simp
              first | done | with_reducible rfl
            (try simp only [Act.put, List.setIfInBounds_toArray, List.set_cons_zero, List.set_cons_succ])
            refine wpAnyH_take (i := 12) (v := undef) (by simp only [List.getElem?_toArray, List.getElem?_cons_succ, List.getElem?_cons_zero]; rfl) (by kernel_rfl) (by kernel_rfl) (by kernel_rfl) (fun _ _ _ h => h) (Or.inr ⟨by rfl, rfl⟩) (by assumption) ?_
            (try simp only [Act.put, List.setIfInBounds_toArray, List.set_cons_zero, List.set_cons_succ])
            refine wpAnyH_take (i := 13) (v := undef) (by simp only [List.getElem?_toArray, List.getElem?_cons_succ, List.getElem?_cons_zero]; rfl) (by kernel_rfl) (by kernel_rfl) (by kernel_rfl) (fun _ _ _ h => h) (Or.inr ⟨by rfl, rfl⟩) (by assumption) ?_
            (try simp only [Act.put, List.setIfInBounds_toArray, List.set_cons_zero, List.set_cons_succ])
            refine wpAnyH_take (i := 14) (v := undef) (by simp only [List.getElem?_toArray, List.getElem?_cons_succ, List.getElem?_cons_zero]; rfl) (by kernel_rfl) (by kernel_rfl) (by kernel_rfl) (fun _ _ _ h => h) (Or.inr ⟨by rfl, rfl⟩) (by assumption) ?_
            (try simp only [Act.put, List.setIfInBounds_toArray, List.set_cons_zero, List.set_cons_succ])
            refine wpAnyH_take (i := 15) (v := undef) (by simp only [List.getElem?_toArray, List.getElem?_cons_succ, List.getElem?_cons_zero]; rfl) (by kernel_rfl) (by kernel_rfl) (by kernel_rfl) (fun _ _ _ h => h) (Or.inr ⟨by rfl, rfl⟩) (by assumption) ?_
            (try simp only [Act.put, List.setIfInBounds_toArray, List.set_cons_zero, List.set_cons_succ])
            refine wpAnyH_take (i := 16) (v := undef) (by simp only [List.getElem?_toArray, List.getElem?_cons_succ, List.getElem?_cons_zero]; rfl) (by kernel_rfl) (by kernel_rfl) (by kernel_rfl) (fun _ _ _ h => h) (Or.inr ⟨by rfl, rfl⟩) (by assumption) ?_
            (try simp only [Act.put, List.setIfInBounds_toArray, List.set_cons_zero, List.set_cons_succ])
            refine wpAnyH_take (i := 17) (v := undef) (by simp only [List.getElem?_toArray, List.getElem?_cons_succ, List.getElem?_cons_zero]; rfl) (by kernel_rfl) (by kernel_rfl) (by kernel_rfl) (fun _ _ _ h => h) (Or.inr ⟨by rfl, rfl⟩) (by assumption) ?_
            (try simp only [Act.put, List.setIfInBounds_toArray, List.set_cons_zero, List.set_cons_succ])
            refine wpAnyH_take (i := 18) (v := undef) (by simp only [List.getElem?_toArray, List.getElem?_cons_succ, List.getElem?_cons_zero]; rfl) (by kernel_rfl) (by kernel_rfl) (by kernel_rfl) (fun _ _ _ h => h) (Or.inr ⟨by rfl, rfl⟩) (by assumption) ?_
            (try simp only [Act.put, List.setIfInBounds_toArray, List.set_cons_zero, List.set_cons_succ])
            refine wpAnyH_take (i := 19) (v := undef) (by simp only [List.getElem?_toArray, List.getElem?_cons_succ, List.getElem?_cons_zero]; rfl) (by kernel_rfl) (by kernel_rfl) (by kernel_rfl) (fun _ _ _ h => h) (Or.inr ⟨by rfl, rfl⟩) (by assumption) ?_
            (try simp only [Act.put, List.setIfInBounds_toArray, List.set_cons_zero, List.set_cons_succ])
            refine wpAnyH_take (i := 20) (v := undef) (by simp only [List.getElem?_toArray, List.getElem?_cons_succ, List.getElem?_cons_zero]; rfl) (by kernel_rfl) (by kernel_rfl) (by kernel_rfl) (fun _ _ _ h => h) (Or.inr ⟨by rfl, rfl⟩) (by assumption) ?_
            (try simp only [Act.put, List.setIfInBounds_toArray, List.set_cons_zero, List.set_cons_succ])
            refine wpAnyH_take (i := 21) (v := ?_) (by simp only [List.getElem?_toArray, List.getElem?_cons_succ, List.getElem?_cons_zero]; rfl) (by kernel_rfl) (by kernel_rfl) (by kernel_rfl) (fun _ _ _ h => h) (Or.inl ⟨by rfl, ?_⟩) (by assumption) ?_
            rotate_left
            · intro w hSw
              (try dsimp only at hSw)
              go_simp
              first | done | with_reducible rfl
            (try simp only [Act.put, List.setIfInBounds_toArray, List.set_cons_zero, List.set_cons_succ])
            refine wpAnyH_take (i := 22) (v := ?_) (by simp only [List.getElem?_toArray, List.getElem?_cons_succ, List.getElem?_cons_zero]; rfl) (by kernel_rfl) (by kernel_rfl) (by kernel_rfl) (fun _ _ _ h => h) (Or.inl ⟨by rfl, ?_⟩) (by assumption) ?_
            rotate_left
            · intro w hSw
              (try dsimp only at hSw)
              go_simp
              first | done | with_reducible rfl
            (try simp only [Act.put, List.setIfInBounds_toArray, List.set_cons_zero, List.set_cons_succ])
            refine wpAnyH_take (i := 23) (v := ?_) (by simp only [List.getElem?_toArray, List.getElem?_cons_succ, List.getElem?_cons_zero]; rfl) (by kernel_rfl) (by kernel_rfl) (by kernel_rfl) (fun _ _ _ h => h) (Or.inl ⟨by rfl, ?_⟩) (by assumption) ?_
            rotate_left
            · intro w hSw
              (try dsimp only at hSw)
              go_simp
              first | done | with_reducible rfl
            (try simp only [Act.put, List.setIfInBounds_toArray, List.set_cons_zero, List.set_cons_succ])
            refine wpAnyH_take (i := 24) (v := ?_) (by simp only [List.getElem?_toArray, List.getElem?_cons_succ, List.getElem?_cons_zero]; rfl) (by kernel_rfl) (by kernel_rfl) (by kernel_rfl) (fun _ _ _ h => h) (Or.inl ⟨by rfl, ?_⟩) (by assumption) ?_
            rotate_left
            · intro w hSw
              (try dsimp only at hSw)
              go_simp
              first | done | with_reducible rfl
            (try simp only [Act.put, List.setIfInBounds_toArray, List.set_cons_zero, List.set_cons_succ])
            refine wpAnyH_take (i := 25) (v := ?_) (by simp only [List.getElem?_toArray, List.getElem?_cons_succ, List.getElem?_cons_zero]; rfl) (by kernel_rfl) (by kernel_rfl) (by kernel_rfl) (fun _ _ _ h => h) (Or.inl ⟨by rfl, ?_⟩) (by assumption) ?_
            rotate_left
            · intro w hSw
              (try dsimp only at hSw)
              go_simp
              first | done | with_reducible rfl
            (try simp only [Act.put, List.setIfInBounds_toArray, List.set_cons_zero, List.set_cons_succ])
            refine wpAnyH_take (i := 26) (v := ?_) (by simp only [List.getElem?_toArray, List.getElem?_cons_succ, List.getElem?_cons_zero]; rfl) (by kernel_rfl) (by kernel_rfl) (by kernel_rfl) (fun _ _ _ h => h) (Or.inl ⟨by rfl, ?_⟩) (by assumption) ?_
            rotate_left
            · intro w hSw
              (try dsimp only at hSw)
              go_simp
              first | done | with_reducible rfl
            (try simp only [Act.put, List.setIfInBounds_toArray, List.set_cons_zero, List.set_cons_succ])
            refine wpAnyH_take (i := 27) (v := ?_) (by simp only [List.getElem?_toArray, List.getElem?_cons_succ, List.getElem?_cons_zero]; rfl) (by kernel_rfl) (by kernel_rfl) (by kernel_rfl) (fun _ _ _ h => h) (Or.inl ⟨by rfl, ?_⟩) (by assumption) ?_
            rotate_left
            · intro w hSw
              (try dsimp only at hSw)
              go_simp
              first | done | with_reducible rfl
            (try simp only [Act.put, List.setIfInBounds_toArray, List.set_cons_zero, List.set_cons_succ])
            refine wpAnyH_take (i := 28) (v := ?_) (by simp only [List.getElem?_toArray, List.getElem?_cons_succ, List.getElem?_cons_zero]; rfl) (by kernel_rfl) (by kernel_rfl) (by kernel_rfl) (fun _ _ _ h => h) (Or.inl ⟨by rfl, ?_⟩) (by assumption) ?_
            rotate_left
            · intro w hSw
              (try dsimp only at hSw)
              go_simp
              first | done | with_reducible rfl
            (try simp only [Act.put, List.setIfInBounds_toArray, List.set_cons_zero, List.set_cons_succ])
            refine wpAnyH_take (i := 29) (v := ?_) (by simp only [List.getElem?_toArray, List.getElem?_cons_succ, List.getElem?_cons_zero]; rfl) (by kernel_rfl) (by kernel_rfl) (by kernel_rfl) (fun _ _ _ h => h) (Or.inl ⟨by rfl, ?_⟩) (by assumption) ?_
            rotate_left
            · intro w hSw
              (try dsimp only at hSw)
              go_simp
              first | done | with_reducible rfl
            (try simp only [Act.put, List.setIfInBounds_toArray, List.set_cons_zero, List.set_cons_succ])
            refine wpAnyH_take (i := 30) (v := ?_) (by simp only [List.getElem?_toArray, List.getElem?_cons_succ, List.getElem?_cons_zero]; rfl) (by kernel_rfl) (by kernel_rfl) (by kernel_rfl) (fun _ _ _ h => h) (Or.inl ⟨by rfl, ?_⟩) (by assumption) ?_
            rotate_left
            · intro w hSw
              (try dsimp only at hSw)
              go_simp
              first | done | with_reducible rfl
            (try simp only [Act.put, List.setIfInBounds_toArray, List.set_cons_zero, List.set_cons_succ])
            refine wpAnyH_take (i := 31) (v := ?_) (by simp only [List.getElem?_toArray, List.getElem?_cons_succ, List.getElem?_cons_zero]; rfl) (by kernel_rfl) (by kernel_rfl) (by kernel_rfl) (fun _ _ _ h => h) (Or.inl ⟨by rfl, ?_⟩) (by assumption) ?_
            rotate_left
            · intro w hSw
              (try dsimp only at hSw)
              go_simp
              first | done | with_reducible rfl
            (try simp only [Act.put, List.setIfInBounds_toArray, List.set_cons_zero, List.set_cons_succ])
            refine wpAnyH_take (i := 34) (v := ?_) (by simp only [List.getElem?_toArray, List.getElem?_cons_succ, List.getElem?_cons_zero]; rfl) (by kernel_rfl) (by kernel_rfl) (by kernel_rfl) (fun _ _ _ h => h) (Or.inl ⟨by rfl, ?_⟩) (by assumption) ?_
            rotate_left
            · intro w hSw
              (try dsimp only at hSw)
              go_simp
              first | done | with_reducible rfl
            (try simp only [Act.put, List.setIfInBounds_toArray, List.set_cons_zero, List.set_cons_succ])
            refine wpAnyH_take (i := 35) (v := ?_) (by simp only [List.getElem?_toArray, List.getElem?_cons_succ, List.getElem?_cons_zero]; rfl) (by kernel_rfl) (by kernel_rfl) (by kernel_rfl) (fun _ _ _ h => h) (Or.inl ⟨by rfl, ?_⟩) (by assumption) ?_
            rotate_left
            · intro w hSw
              (try dsimp only at hSw)
              go_simp
              first | done | with_reducible rfl
            (try simp only [Act.put, List.setIfInBounds_toArray, List.set_cons_zero, List.set_cons_succ])
            refine wpAnyH_take (i := 36) (v := ?_) (by simp only [List.getElem?_toArray, List.getElem?_cons_succ, List.getElem?_cons_zero]; rfl) (by kernel_rfl) (by kernel_rfl) (by kernel_rfl) (fun _ _ _ h => h) (Or.inl ⟨by rfl, ?_⟩) (by assumption) ?_
            rotate_left
            · intro w hSw
              (try dsimp only at hSw)
              go_simp
              first | done | with_reducible rfl
            (try simp only [Act.put, List.setIfInBounds_toArray, List.set_cons_zero, List.set_cons_succ])
            refine wpAnyH_ready (rs := [32]) (by kernel_rfl) (by simp) ?_
            refine AllReadyH.cons rfl (fun K hK => ?_) AllReadyH.nil
            go_simp
            (go_at_call 30)
            refine (cut_any HSd.out (by omega)).mono ?_
            rintro e wm ⟨vm, rfl, hown, hbx⟩
            have hS1 := HS1.out wm hbx
            obtain ⟨vo, vc, hve, hvc1, hvc2⟩ := (SlR.of_own hown).form
            simp only [List.length_map] at hve hvc1
            subst hve
            have hbx := Lib.hid hbx
            clear hown
            (try dsimp only)
            refine hK.out _ _ hS1 (fun hHeld2 => ?_)
            clear hK
            (try simp only [Act.put, List.setIfInBounds_toArray, List.set_cons_zero, List.set_cons_succ])
            refine wpAnyH_take (i := 33) (v := ?_) (by simp only [List.getElem?_toArray, List.getElem?_cons_succ, List.getElem?_cons_zero]; rfl) (by kernel_rfl) (by kernel_rfl) (by kernel_rfl) (fun _ _ _ h => h) (Or.inl ⟨by rfl, ?_⟩) (by assumption) ?_
            rotate_left
            · intro w hSw
              (try dsimp only at hSw)
              go_simp
              first | done | with_reducible rfl
            (try simp only [Act.put, List.setIfInBounds_toArray, List.set_cons_zero, List.set_cons_succ])
            refine wpAnyH_take (i := 37) (v := ?_) (by simp only [List.getElem?_toArray, List.getElem?_cons_succ, List.getElem?_cons_zero]; rfl) (by kernel_rfl) (by kernel_rfl) (by kernel_rfl) (fun _ _ _ h => h) (Or.inl ⟨by rfl, ?_⟩) (by assumption) ?_
            rotate_left
            · intro w hSw
              (try dsimp only at hSw)
              go_simp
              first | done | with_reducible rfl
            (try simp only [Act.put, List.setIfInBounds_toArray, List.set_cons_zero, List.set_cons_succ])
            refine wpAnyH_take (i := 38) (v := ?_) (by simp only [List.getElem?_toArray, List.getElem?_cons_succ, List.getElem?_cons_zero]; rfl) (by kernel_rfl) (by kernel_rfl) (by kernel_rfl) (fun _ _ _ h => h) (Or.inl ⟨by rfl, ?_⟩) (by assumption) ?_
            rotate_left
            · intro w hSw
              (try dsimp only at hSw)
              go_simp
              first | done | with_reducible rfl
            (try simp only [Act.put, List.setIfInBounds_toArray, List.set_cons_zero, List.set_cons_succ])
            refine wpAnyH_done (by kernel_rfl) ?_ _
            refine NoPanic.normal ?_
            go_wp2
            go_roundw
            case rel => exact ⟨0 + 1, by omega, by go_num, HGd.out, HBA.out.trans ((Below.refl _ _).drew.trans (hbx.out.mono HBA.out.size))⟩
            case measure => simp [intOf]; omega
      · have hpcA := hcell hpc
        have hp' : (rs[k']?.getD (0, [])).1 = p := by simpa [List.getD] using hp
        have hk'0 : (0 : Int) ≤ k' := by omega
        have hk'2 : (0 : Int) < (k' : Int) + 1 := by omega
        have hk'3 : (k' : Int) + 1 - 1 = k' := by omega
        have hk'4 : (k' : Int).toNat = k' := by omega
        have hk'5 : IntKind.i64.wrap (k' : Int) = k' := IntWalk.i64_in _ (by omega)
        have hk'1 : (k' : Int) < rs.length := by omega
        have hw : IntKind.i64.wrap ((k' : Int) + 1 - 1) = k' := by
          rw [Int.add_sub_cancel]; exact IntWalk.i64_in _ (by omega)
        rw [show ((k' + 1 : Nat) : Int) = (k' : Int) + 1 from rfl]
        clear hpc hcell
        rcases hrest with h1 | ⟨h1, h2⟩ | ⟨h1, h2⟩
        · skip
          have hRf : R = false := HBad.out (by rw [HRow.out]; simp [h1]; try omega)
          have HRf := Lib.hid hRf
          clear hRf HRow HGood HBad
          have hd0 : decide (s < 0) = true := by first | exact decide_eq_true (by omega) | exact decide_eq_true (by show _; omega)
          go_wp2_with fail
          go_quiet (fail)
          go_wp2
          go_ret
          exact ⟨by rw [HRf.out]; rfl, below_drewN HBA.out _⟩
        · skip
          have hRf : R = false := HBad.out (by rw [HRow.out]; simp [h1, h2]; try omega)
          have HRf := Lib.hid hRf
          clear hRf HRow HGood HBad
          have hd0 : decide (s < 0) = false := by first | exact decide_eq_false (by omega) | exact decide_eq_false (by show _; omega)
          have hd1 : decide (8 ≤ s) = true := by first | exact decide_eq_true (by omega) | exact decide_eq_true (by show _; omega)
          go_wp2_with fail
          go_quiet (fail)
          go_wp2
          go_ret
          exact ⟨by rw [HRf.out]; rfl, below_drewN HBA.out _⟩
        · by_cases hps : p < s
          rotate_left
          · skip
            have hRf : R = false := HBad.out (by rw [HRow.out]; simp [h1, h2, hp', hps]; try omega)
            have HRf := Lib.hid hRf
            clear hRf HRow HGood HBad
            have hd0 : decide (s < 0) = false := by first | exact decide_eq_false (by omega) | exact decide_eq_false (by show _; omega)
            have hd1 : decide (8 ≤ s) = false := by first | exact decide_eq_false (by omega) | exact decide_eq_false (by show _; omega)
            have hd2 : decide (s ≤ p) = true := by first | exact decide_eq_true (by omega) | exact decide_eq_true (by show _; omega)
            go_wp2_with fail
            go_quiet (fail)
            go_wp2
            go_ret
            exact ⟨by rw [HRf.out]; rfl, below_drewN HBA.out _⟩
          rcases hrest2 with g1 | ⟨g1, g2⟩ | ⟨g1, g2⟩
          · skip
            have hRf : R = false := HBad.out (by rw [HRow.out]; simp [h1, h2, hp', hps, g1]; try omega)
            have HRf := Lib.hid hRf
            clear hRf HRow HGood HBad
            have hd0 : decide (s < 0) = false := by first | exact decide_eq_false (by omega) | exact decide_eq_false (by show _; omega)
            have hd1 : decide (8 ≤ s) = false := by first | exact decide_eq_false (by omega) | exact decide_eq_false (by show _; omega)
            have hd2 : decide (s ≤ p) = false := by first | exact decide_eq_false (by omega) | exact decide_eq_false (by show _; omega)
            have hd3 : decide (4 < (xs.length : Int)) = true := by first | exact decide_eq_true (by omega) | exact decide_eq_true (by show _; omega)
            go_wp2_with fail
            go_quiet (fail)
            go_wp2
            go_ret
            exact ⟨by rw [HRf.out]; rfl, below_drewN HBA.out _⟩
          · skip
            have hS0 : (wr.alloc (.cells #[.int .i64 s, .slice so xs.length sc] 37)).drew.cell? ⟨wr.heap.size, 0, none⟩ = some (.int .i64 s) ∧ (wr.alloc (.cells #[.int .i64 s, .slice so xs.length sc] 37)).drew.cell? ⟨wr.heap.size, 1, none⟩ = some (.slice so xs.length sc) ∧ (wr.alloc (.cells #[.int .i64 s, .slice so xs.length sc] 37)).drew.cell? (a.add (k' * 2)) = some (.int .i64 p) := ⟨x0, x1, hpcA⟩
            have HSd := Lib.hid (HSA.out.below (Below.refl _ (wr.alloc (.cells #[.int .i64 s, .slice so xs.length sc] 37))).drew (Nat.le_refl _))
            have hS1' : ∀ wm : World, Below (wr.alloc (.cells #[.int .i64 s, .slice so xs.length sc] 37)).drew.heap.size (wr.alloc (.cells #[.int .i64 s, .slice so xs.length sc] 37)).drew wm → (wm.cell? ⟨wr.heap.size, 0, none⟩ = some (.int .i64 s) ∧ wm.cell? ⟨wr.heap.size, 1, none⟩ = some (.slice so xs.length sc) ∧ wm.cell? (a.add (k' * 2)) = some (.int .i64 p)) := fun wm hb => ⟨(hb.cell (World.block_lt_of_cell? _ _ hS0.1)).trans hS0.1, (hb.cell (World.block_lt_of_cell? _ _ hS0.2.1)).trans hS0.2.1, (hb.cell (World.block_lt_of_cell? _ _ hS0.2.2)).trans hS0.2.2⟩
            have HS1 := Lib.hid hS1'
            clear hS1'
            have hci : ((cutI xs).length : Int) < (xs.length : Int) := by omega
            have hRf : R = false := HBad.out (by rw [HRow.out]; simp [h1, h2, hp', hps, g1, g2]; try omega)
            have HRf := Lib.hid hRf
            clear hRf HRow HGood HBad
            have hd0 : decide (s < 0) = false := by first | exact decide_eq_false (by omega) | exact decide_eq_false (by show _; omega)
            have hd1 : decide (8 ≤ s) = false := by first | exact decide_eq_false (by omega) | exact decide_eq_false (by show _; omega)
            have hd2 : decide (s ≤ p) = false := by first | exact decide_eq_false (by omega) | exact decide_eq_false (by show _; omega)
            have hd3 : decide (4 < (xs.length : Int)) = false := by first | exact decide_eq_false (by omega) | exact decide_eq_false (by show _; omega)
            have hd4 : decide (((cutI xs).length : Int) < (xs.length : Int)) = true := decide_eq_true (by omega)
            go_wp2_with fail
            go_region_held3 (fun w' => w'.cell? ⟨wr.heap.size, 0, none⟩ = some (.int .i64 s) ∧ w'.cell? ⟨wr.heap.size, 1, none⟩ = some (.slice so xs.length sc) ∧ w'.cell? (a.add (k' * 2)) = some (.int .i64 p)) (first | go_keep | exact hS0 | exact hS1)
              (first
                | (go_at_call 30
                   refine (cut_any HSd.out (by omega)).mono ?_
                   rintro e wm ⟨vm, rfl, hown, hbx⟩
                   have hS1 := HS1.out wm hbx
                   obtain ⟨vo, vc, hve, hvc1, hvc2⟩ := (SlR.of_own hown).form
                   simp only [List.length_map] at hve hvc1
                   subst hve
                   have hbx := Lib.hid hbx
                   clear hown))
            go_wp2
            go_ret
            exact ⟨by rw [HRf.out]; rfl, HBA.out.trans ((Below.refl _ _).drew.trans (hbx.out.mono HBA.out.size))⟩
          · skip
            have hS0 : (wr.alloc (.cells #[.int .i64 s, .slice so xs.length sc] 37)).drew.cell? ⟨wr.heap.size, 0, none⟩ = some (.int .i64 s) ∧ (wr.alloc (.cells #[.int .i64 s, .slice so xs.length sc] 37)).drew.cell? ⟨wr.heap.size, 1, none⟩ = some (.slice so xs.length sc) ∧ (wr.alloc (.cells #[.int .i64 s, .slice so xs.length sc] 37)).drew.cell? (a.add (k' * 2)) = some (.int .i64 p) := ⟨x0, x1, hpcA⟩
            have HSd := Lib.hid (HSA.out.below (Below.refl _ (wr.alloc (.cells #[.int .i64 s, .slice so xs.length sc] 37))).drew (Nat.le_refl _))
            have hS1' : ∀ wm : World, Below (wr.alloc (.cells #[.int .i64 s, .slice so xs.length sc] 37)).drew.heap.size (wr.alloc (.cells #[.int .i64 s, .slice so xs.length sc] 37)).drew wm → (wm.cell? ⟨wr.heap.size, 0, none⟩ = some (.int .i64 s) ∧ wm.cell? ⟨wr.heap.size, 1, none⟩ = some (.slice so xs.length sc) ∧ wm.cell? (a.add (k' * 2)) = some (.int .i64 p)) := fun wm hb => ⟨(hb.cell (World.block_lt_of_cell? _ _ hS0.1)).trans hS0.1, (hb.cell (World.block_lt_of_cell? _ _ hS0.2.1)).trans hS0.2.1, (hb.cell (World.block_lt_of_cell? _ _ hS0.2.2)).trans hS0.2.2⟩
            have HS1 := Lib.hid hS1'
            clear hS1'
            have hci : (xs.length : Int) ≤ ((cutI xs).length : Int) := by omega
            have hgd := HGood.out (by rw [HRow.out]; simp [h1, h2, hp', hps, g1, g2]; try omega)
            have HGd := Lib.hid hgd
            clear hgd HRow HGood HBad
            have hd0 : decide (s < 0) = false := by first | exact decide_eq_false (by omega) | exact decide_eq_false (by show _; omega)
            have hd1 : decide (8 ≤ s) = false := by first | exact decide_eq_false (by omega) | exact decide_eq_false (by show _; omega)
            have hd2 : decide (s ≤ p) = false := by first | exact decide_eq_false (by omega) | exact decide_eq_false (by show _; omega)
            have hd3 : decide (4 < (xs.length : Int)) = false := by first | exact decide_eq_false (by omega) | exact decide_eq_false (by show _; omega)
            have hd4 : decide (((cutI xs).length : Int) < (xs.length : Int)) = false := decide_eq_false (by omega)
            go_wp2_with fail
            go_region_held3 (fun w' => w'.cell? ⟨wr.heap.size, 0, none⟩ = some (.int .i64 s) ∧ w'.cell? ⟨wr.heap.size, 1, none⟩ = some (.slice so xs.length sc) ∧ w'.cell? (a.add (k' * 2)) = some (.int .i64 p)) (first | go_keep | exact hS0 | exact hS1)
              (first
                | (go_at_call 30
                   refine (cut_any HSd.out (by omega)).mono ?_
                   rintro e wm ⟨vm, rfl, hown, hbx⟩
                   have hS1 := HS1.out wm hbx
                   obtain ⟨vo, vc, hve, hvc1, hvc2⟩ := (SlR.of_own hown).form
                   simp only [List.length_map] at hve hvc1
                   subst hve
                   have hbx := Lib.hid hbx
                   clear hown))
            go_wp2
            go_roundw
            case rel => exact ⟨k' + 1 + 1, by omega, by go_num, HGd.out, HBA.out.trans ((Below.refl _ _).drew.trans (hbx.out.mono HBA.out.size))⟩
            case measure => simp [intOf]; omega
    · have hkl : k = rs.length := by omega
      subst hkl
      have hRt : R = true := by rw [HR.out]; exact rowsB_true HO.out
      clear HO
      go_wp2_with fail
      go_ret
      exact ⟨by rw [hRt]; rfl, HB.out⟩
end Go.Proofs.Ytabanackdjlcmaa
