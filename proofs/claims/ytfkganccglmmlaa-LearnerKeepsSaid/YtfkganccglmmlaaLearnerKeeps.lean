/-
  LearnerKeeps: a slot's value that is known stays, whatever else is told of it.
-/
import Derived.Test.YtfkganccglmmlaaLrnW
import Derived.Test.YtfkganccglmmlaaFrame
namespace Go.Proofs.Ytfkganccglmmlaa
open Go.ChangeShapes Go.WideShapes Go.ChangeAt Go.RowKit Go.Maps

theorem Try.intInfo : (Try.prog.info? 3).map (fun i => (i.zero, i.size, i.bytes)) = some (some (.int .i64 0), 1, 8) := by kernel_rfl
abbrev i64s (xs : List Int) : List Value := xs.map (Value.int .i64)
/-- What the law has noted of the first eight slots. -/
def Noted (m : Kn) (F : List Int) : Prop := F.length = 8 ∧ (∀ k : Int, 0 ≤ k → k < 8 → (atI F k = 0 ∧ m k = none) ∨ (∃ x, 0 ≤ x ∧ x ≤ 255 ∧ atI F k = x + 1 ∧ m k = some [x]))

theorem atI_set (F : List Int) (k : Int) (x j : Int) (hk : 0 ≤ k) (hl : k < F.length) (hj : 0 ≤ j) : atI (F.set k.toNat x) j = if j = k then x else atI F j := by
  unfold atI
  rw [if_pos hj, if_pos hj, List.getD, List.getD, List.getElem?_set]
  by_cases e : j = k
  · subst e; rw [if_pos rfl, if_pos rfl, if_pos (by omega)]; rfl
  · rw [if_neg (by omega), if_neg e]
theorem Noted.put {m : Kn} {F : List Int} (h : Noted m F) (k x : Int) (h0 : 0 ≤ k) (h1 : k < 8) (hx : 0 ≤ x ∧ x ≤ 255) : Noted (putK m k [x]) (F.set k.toNat (x + 1)) := by
  refine ⟨by simp [h.1], fun j h2 h3 => ?_⟩
  rw [atI_set _ _ _ _ h0 (by have := h.1; omega) h2]
  by_cases e : j = k
  · subst e; rw [if_pos rfl]; exact Or.inr ⟨x, hx.1, hx.2, rfl, putK_self _ _ _⟩
  · rw [if_neg e, putK_ne _ _ _ _ e]; exact h.2 j h2 h3

set_option maxRecDepth 100000 in
set_option maxHeartbeats 2000000 in
theorem learnerKeeps_in {v : Value} {xs : List Int} {a b : Int} {W : World} (hv : SlR W v (u8s xs)) (ux : U8 xs) (lx : xs.length ≤ 40) (ha : 0 ≤ a ∧ a ≤ 255) (hb : 0 ≤ b ∧ b ≤ 255) :
    Calls Try.prog 5 #[v, .int .u8 a, .int .u8 b] W fun e W' => e = .returned (.bool true) ∧ Below W.heap.size W W' := by
  have H := Lib.hid hv
  obtain ⟨ao, c, rfl, hc, hm, _⟩ := hv.intsAt
  obtain ⟨i0, hi, hz0, hz1, hz2⟩ := info_parts Try.intInfo
  go_enter Try.func5, Try.ntmps5
  go_wp2_with (go_at_call 7; refine (awake_any W).mono ?_; rintro e w1 ⟨rfl, hb1⟩; have hb1 := Lib.hid hb1)
  refine (new_lw w1).mono ?_
  rintro e w2 ⟨rfl, h2⟩
  have H2 := Lib.hid h2
  have HS := Lib.hid (H.out.below hb1.out (Nat.le_refl _))
  clear h2
  go_wp2_with (at_make; refine wpList_make_full _ rfl _ _ 48 rfl w2.heap.size 3 i0 (.int .i64 0) 1 Try.underlying48 hi hz0 hz1 _ _ _ _ 8 rfl rfl rfl rfl (by rw [hz2]; decide) (by decide) (Nat.le_refl _) ?_; intro w3 hown hg; have hown := Lib.hid hown; have hg := Lib.hid hg)
  have hF : (madeCells (Value.int .i64 0).cells (8 * 1)).toList = i64s (List.replicate 8 0) := by kernel_rfl
  rw [hF] at hown
  have H3 := Lib.hid (H2.out.step ((Below.refl _ _).grown hg.out (Nat.le_refl _) (by simp)))
  have hsz := H2.out.size
  clear hF hg H2
  go_loopw [10, 11, 12, 13, 14, 15, 16] (fun i _ _ _ _ _ _ wr => ∃ (j : Nat) (n : Nat) (m : Kn) (F : List Int), j ≤ xs.length ∧ i = .int .i64 j ∧ n ≤ j ∧ LW w1 wr n m ∧ Noted m F ∧ wr.ownsRow w2.heap.size 3 1 (.slice (some ⟨w2.heap.size, 0, none⟩) 8 8) 8 (i64s F)) (fun i _ _ _ _ _ _ _ => xs.length - (intOf i).toNat)
  case atStart => exact ⟨0, 0, fun _ => none, List.replicate 8 0, by omega, rfl, by omega, H3.out, ⟨rfl, fun k h0 h1 => Or.inl ⟨by
    rcases (show k = 0 ∨ k = 1 ∨ k = 2 ∨ k = 3 ∨ k = 4 ∨ k = 5 ∨ k = 6 ∨ k = 7 by omega) with rfl | rfl | rfl | rfl | rfl | rfl | rfl | rfl <;> decide, rfl⟩⟩, hown.out⟩
  case round =>
    obtain ⟨j, n, m, F, hj, rfl, hnj, hlw, hF, hown⟩ := hrel
    have HL := Lib.hid hlw
    have HF := Lib.hid hF
    have HO := Lib.hid hown
    clear hlw hF hown
    by_cases hlt : j < xs.length
    · obtain ⟨ao', c', hv', _, _, hx⟩ := (HS.out.below HL.out.below (Nat.le_refl _)).intsAt
      cases hv'
      obtain ⟨ad, rfl, hcell⟩ := hx j hlt
      have hxb : 0 ≤ atI xs j ∧ atI xs j ≤ 255 := by
        have := ux xs[j] (List.getElem_mem hlt)
        simpa [atI, hlt] using this
      clear hx
      generalize atI xs j = y at *
      have hcella : j = 0 → wr.cell? ad = some (.int .u8 y) := fun e => by subst e; rw [show ad.add (0 : Nat) = ad by cases ad; rfl] at hcell; exact hcell
      have hk0 : 0 ≤ y % 8 := by omega
      have hk8 : y % 8 < 8 := by omega
      have hkN : (y % 8).toNat < 8 := by omega
      have hcF : ∀ w' : World, w'.ownsRow w2.heap.size 3 1 (.slice (some ⟨w2.heap.size, 0, none⟩) 8 8) 8 (i64s F) → w'.cell? ⟨w2.heap.size, (y % 8).toNat, none⟩ = some (.int .i64 (atI F (y % 8))) ∧ w'.frozen? ⟨w2.heap.size, (y % 8).toNat, none⟩ = false := fun w' h => by
        refine ⟨?_, h.frozenAt _⟩
        rw [h.cellAt _ (by omega), List.getElem?_map]
        have := HF.out.1
        simp [atI, hk0, List.getElem?_eq_getElem (show (y % 8).toNat < F.length by omega)]
      have HCF := Lib.hid hcF
      have hwz := HL.out.size
      clear hcF
      rcases HF.out.2 (y % 8) hk0 hk8 with ⟨hf0, hm0⟩ | ⟨z, hz0, hz255, hfz, hmz⟩
      · have HM0 := Lib.hid hm0
        have HF0 := Lib.hid hf0
        clear hm0 hf0
        cases hq : (bits .and .u8 y 8 == 8)
        · go_wp2_with fail
          refine ((HL.out.step (below_lit _ _)).learn (slot := y % 8) (xs := [a]) (lit_u8 wr [a] _ _ (by simp)) (by intro u hu; simp at hu; omega) (by simp) hk0 (by omega) (by omega) HM0.out).mono ?_
          rintro e w4 ⟨rfl, h4, hk4⟩
          have H4 := Lib.hid h4
          have hown4 : w4.ownsRow w2.heap.size 3 1 (.slice (some ⟨w2.heap.size, 0, none⟩) 8 8) 8 (i64s F) := own_keepS hk4 (HO.out.alloc _) (fun k hk hs => by simp [Value.ownBlock] at hk; rcases hs with hs | hs <;> omega)
          obtain ⟨hc4, hz4⟩ := HCF.out _ hown4
          rw [HF0.out] at hc4
          have HS5 := Lib.hid (hown4.stored (y % 8).toNat (.int .i64 (a + 1))).1
          have H5 := Lib.hid (h4.setOther hc4 (by intro x hx; cases hx) (by show _ ≤ w2.heap.size; exact hsz) (.int .i64 (a + 1)))
          clear h4 hk4 hown4
          go_wp2_with fail
          refine (H5.out.get (slot := y % 8) hk0 (by omega)).mono ?_
          rintro e w6 ⟨v6, x6, rfl, hv6, _, hx6, hb6⟩
          have hx : x6 = [a] := by
            rw [putK_self] at hx6
            rcases hx6 with h | h
            · cases h; rfl
            · cases h.1
          subst hx
          rw [putK_self]
          have H6 := Lib.hid (H5.out.step hb6)
          have hown6 := own_keep HS5.out (fun k hk => hb6.block k (HS5.out.lt k hk).2)
          obtain ⟨ao6, c6, rfl, hc6, hm6, hx6'⟩ := hv6.intsAt
          obtain ⟨a6, rfl, hcell6⟩ := hx6' 0 (by simp)
          have hcell6 : w6.cell? a6 = some (.int .u8 a) := by rw [show a6.add (0 : Nat) = a6 by cases a6; rfl] at hcell6; exact hcell6
          have hset : (i64s F).set (y % 8).toNat (.int .i64 (a + 1)) = i64s (F.set (y % 8).toNat (a + 1)) := by simp [i64s, List.map_set]
          rw [hset] at hown6
          have hfirst : w6.cell? ⟨w2.heap.size, (y % 8).toNat, none⟩ = some (.int .i64 (a + 1)) := by
            have := HF.out.1
            rw [hown6.cellAt _ (by omega), List.getElem?_map]
            simp [show (y % 8).toNat < F.length by omega]
          have HO6 := Lib.hid hown6
          clear hv6 hx6 hb6 hx6' hown6 hset HS5 H5 hc4 hz4
          simp only [List.length_cons, List.length_nil, Nat.zero_add] at hc6 ⊢
          go_wp2_with fail
          go_quiet (fail)
          go_wp2_with fail
          go_roundw
          case rel => exact ⟨j + 1, n + 1, putK m (y % 8) [a], F.set (y % 8).toNat (a + 1), by omega, by go_num, by omega, H6.out.step (below_drewN (Below.refl _ _) _), HF.out.put _ _ hk0 hk8 (by omega), own_drewN HO6.out _⟩
          case measure => simp [intOf]; omega
        · go_wp2_with fail
          refine ((HL.out.step (below_lit _ _)).learn (slot := y % 8) (xs := [b]) (lit_u8 wr [b] _ _ (by simp)) (by intro u hu; simp at hu; omega) (by simp) hk0 (by omega) (by omega) HM0.out).mono ?_
          rintro e w4 ⟨rfl, h4, hk4⟩
          have H4 := Lib.hid h4
          have hown4 : w4.ownsRow w2.heap.size 3 1 (.slice (some ⟨w2.heap.size, 0, none⟩) 8 8) 8 (i64s F) := own_keepS hk4 (HO.out.alloc _) (fun k hk hs => by simp [Value.ownBlock] at hk; rcases hs with hs | hs <;> omega)
          obtain ⟨hc4, hz4⟩ := HCF.out _ hown4
          rw [HF0.out] at hc4
          have HS5 := Lib.hid (hown4.stored (y % 8).toNat (.int .i64 (b + 1))).1
          have H5 := Lib.hid (h4.setOther hc4 (by intro x hx; cases hx) (by show _ ≤ w2.heap.size; exact hsz) (.int .i64 (b + 1)))
          clear h4 hk4 hown4
          go_wp2_with fail
          refine (H5.out.get (slot := y % 8) hk0 (by omega)).mono ?_
          rintro e w6 ⟨v6, x6, rfl, hv6, _, hx6, hb6⟩
          have hx : x6 = [b] := by
            rw [putK_self] at hx6
            rcases hx6 with h | h
            · cases h; rfl
            · cases h.1
          subst hx
          rw [putK_self]
          have H6 := Lib.hid (H5.out.step hb6)
          have hown6 := own_keep HS5.out (fun k hk => hb6.block k (HS5.out.lt k hk).2)
          obtain ⟨ao6, c6, rfl, hc6, hm6, hx6'⟩ := hv6.intsAt
          obtain ⟨a6, rfl, hcell6⟩ := hx6' 0 (by simp)
          have hcell6 : w6.cell? a6 = some (.int .u8 b) := by rw [show a6.add (0 : Nat) = a6 by cases a6; rfl] at hcell6; exact hcell6
          have hset : (i64s F).set (y % 8).toNat (.int .i64 (b + 1)) = i64s (F.set (y % 8).toNat (b + 1)) := by simp [i64s, List.map_set]
          rw [hset] at hown6
          have hfirst : w6.cell? ⟨w2.heap.size, (y % 8).toNat, none⟩ = some (.int .i64 (b + 1)) := by
            have := HF.out.1
            rw [hown6.cellAt _ (by omega), List.getElem?_map]
            simp [show (y % 8).toNat < F.length by omega]
          have HO6 := Lib.hid hown6
          clear hv6 hx6 hb6 hx6' hown6 hset HS5 H5 hc4 hz4
          simp only [List.length_cons, List.length_nil, Nat.zero_add] at hc6 ⊢
          go_wp2_with fail
          go_quiet (fail)
          go_wp2_with fail
          go_roundw
          case rel => exact ⟨j + 1, n + 1, putK m (y % 8) [b], F.set (y % 8).toNat (b + 1), by omega, by go_num, by omega, H6.out.step (below_drewN (Below.refl _ _) _), HF.out.put _ _ hk0 hk8 (by omega), own_drewN HO6.out _⟩
          case measure => simp [intOf]; omega
      · have HMZ := Lib.hid hmz
        have HFZ := Lib.hid hfz
        clear hmz hfz
        cases hq : (bits .and .u8 y 8 == 8)
        · by_cases hxz : a = z
          · obtain rfl := hxz
            go_wp2_with fail
            refine ((HL.out.step (below_lit _ _)).known (slot := y % 8) (xs := [a]) (ys := [a]) (lit_u8 wr [a] _ _ (by simp)) (by intro u hu; simp at hu; omega) hk0 (by omega) HMZ.out).mono ?_
            rw [show (if [a] = [a] then (31 : Int) else 33) = 31 by simp]
            rintro e w' ⟨rfl, rfl⟩
            have hb5 := below_lit wr (.cells (u8s [a]).toArray 5 (0, 0))
            have H5 := Lib.hid (HL.out.step hb5)
            have hown5 := own_keep HO.out (fun k hk => hb5.block k (HO.out.lt k hk).2)
            obtain ⟨hc4, hz4⟩ := HCF.out _ hown5
            rw [HFZ.out] at hc4
            have HO5 := Lib.hid hown5
            obtain ⟨w5, hw5⟩ : ∃ w5, w5 = wr.alloc (.cells (u8s [a]).toArray 5 (0, 0)) := ⟨_, rfl⟩
            rw [← hw5] at H5 hc4 hz4 HO5 ⊢
            clear hb5 hown5 hw5
            go_wp2_with fail
            refine (H5.out.get (slot := y % 8) hk0 (by omega)).mono ?_
            rintro e w6 ⟨v6, x6, rfl, hv6, _, hx6, hb6⟩
            rw [HMZ.out] at hx6
            have hx : x6 = [a] := by
              rcases hx6 with h | h
              · cases h; rfl
              · cases h.1
            subst hx
            rw [HMZ.out]
            have H6 := Lib.hid (H5.out.step hb6)
            have hown6 := own_keep HO5.out (fun k hk => hb6.block k (HO5.out.lt k hk).2)
            obtain ⟨ao6, c6, rfl, hc6, hm6, hx6'⟩ := hv6.intsAt
            obtain ⟨a6, rfl, hcell6⟩ := hx6' 0 (by simp)
            have hcell6 : w6.cell? a6 = some (.int .u8 a) := by rw [show a6.add (0 : Nat) = a6 by cases a6; rfl] at hcell6; exact hcell6
            have hfirst : w6.cell? ⟨w2.heap.size, (y % 8).toNat, none⟩ = some (.int .i64 (a + 1)) := by
              have := (HCF.out _ hown6).1
              rwa [HFZ.out] at this
            have HO6 := Lib.hid hown6
            clear hv6 hx6 hb6 hx6' hown6 H5 hc4 hz4
            simp only [List.length_cons, List.length_nil, Nat.zero_add] at hc6 ⊢
            go_wp2_with fail
            go_quiet (fail)
            go_wp2_with fail
            go_roundw
            case rel => exact ⟨j + 1, n, m, F, by omega, by go_num, by omega, H6.out.step (below_drewN (Below.refl _ _) _), HF.out, own_drewN HO6.out _⟩
            case measure => simp [intOf]; omega
          · have hzx : (z == a) = false := by rw [beq_eq_false_iff_ne]; exact fun e => hxz e.symm
            go_wp2_with fail
            refine ((HL.out.step (below_lit _ _)).known (slot := y % 8) (xs := [a]) (ys := [z]) (lit_u8 wr [a] _ _ (by simp)) (by intro u hu; simp at hu; omega) hk0 (by omega) HMZ.out).mono ?_
            rw [show (if [z] = [a] then (31 : Int) else 33) = 33 by simp; exact fun e => hxz e.symm]
            rintro e w' ⟨rfl, rfl⟩
            have hb5 := below_lit wr (.cells (u8s [a]).toArray 5 (0, 0))
            have H5 := Lib.hid (HL.out.step hb5)
            have hown5 := own_keep HO.out (fun k hk => hb5.block k (HO.out.lt k hk).2)
            obtain ⟨hc4, hz4⟩ := HCF.out _ hown5
            rw [HFZ.out] at hc4
            have HO5 := Lib.hid hown5
            obtain ⟨w5, hw5⟩ : ∃ w5, w5 = wr.alloc (.cells (u8s [a]).toArray 5 (0, 0)) := ⟨_, rfl⟩
            rw [← hw5] at H5 hc4 hz4 HO5 ⊢
            clear hb5 hown5 hw5
            go_wp2_with fail
            refine (H5.out.get (slot := y % 8) hk0 (by omega)).mono ?_
            rintro e w6 ⟨v6, x6, rfl, hv6, _, hx6, hb6⟩
            rw [HMZ.out] at hx6
            have hx : x6 = [z] := by
              rcases hx6 with h | h
              · cases h; rfl
              · cases h.1
            subst hx
            rw [HMZ.out]
            have H6 := Lib.hid (H5.out.step hb6)
            have hown6 := own_keep HO5.out (fun k hk => hb6.block k (HO5.out.lt k hk).2)
            obtain ⟨ao6, c6, rfl, hc6, hm6, hx6'⟩ := hv6.intsAt
            obtain ⟨a6, rfl, hcell6⟩ := hx6' 0 (by simp)
            have hcell6 : w6.cell? a6 = some (.int .u8 z) := by rw [show a6.add (0 : Nat) = a6 by cases a6; rfl] at hcell6; exact hcell6
            have hfirst : w6.cell? ⟨w2.heap.size, (y % 8).toNat, none⟩ = some (.int .i64 (z + 1)) := by
              have := (HCF.out _ hown6).1
              rwa [HFZ.out] at this
            have HO6 := Lib.hid hown6
            clear hv6 hx6 hb6 hx6' hown6 H5 hc4 hz4
            simp only [List.length_cons, List.length_nil, Nat.zero_add] at hc6 ⊢
            go_wp2_with fail
            go_quiet (fail)
            go_wp2_with fail
            go_roundw
            case rel => exact ⟨j + 1, n, m, F, by omega, by go_num, by omega, H6.out.step (below_drewN (Below.refl _ _) _), HF.out, own_drewN HO6.out _⟩
            case measure => simp [intOf]; omega
        · by_cases hxz : b = z
          · obtain rfl := hxz
            go_wp2_with fail
            refine ((HL.out.step (below_lit _ _)).known (slot := y % 8) (xs := [b]) (ys := [b]) (lit_u8 wr [b] _ _ (by simp)) (by intro u hu; simp at hu; omega) hk0 (by omega) HMZ.out).mono ?_
            rw [show (if [b] = [b] then (31 : Int) else 33) = 31 by simp]
            rintro e w' ⟨rfl, rfl⟩
            have hb5 := below_lit wr (.cells (u8s [b]).toArray 5 (0, 0))
            have H5 := Lib.hid (HL.out.step hb5)
            have hown5 := own_keep HO.out (fun k hk => hb5.block k (HO.out.lt k hk).2)
            obtain ⟨hc4, hz4⟩ := HCF.out _ hown5
            rw [HFZ.out] at hc4
            have HO5 := Lib.hid hown5
            obtain ⟨w5, hw5⟩ : ∃ w5, w5 = wr.alloc (.cells (u8s [b]).toArray 5 (0, 0)) := ⟨_, rfl⟩
            rw [← hw5] at H5 hc4 hz4 HO5 ⊢
            clear hb5 hown5 hw5
            go_wp2_with fail
            refine (H5.out.get (slot := y % 8) hk0 (by omega)).mono ?_
            rintro e w6 ⟨v6, x6, rfl, hv6, _, hx6, hb6⟩
            rw [HMZ.out] at hx6
            have hx : x6 = [b] := by
              rcases hx6 with h | h
              · cases h; rfl
              · cases h.1
            subst hx
            rw [HMZ.out]
            have H6 := Lib.hid (H5.out.step hb6)
            have hown6 := own_keep HO5.out (fun k hk => hb6.block k (HO5.out.lt k hk).2)
            obtain ⟨ao6, c6, rfl, hc6, hm6, hx6'⟩ := hv6.intsAt
            obtain ⟨a6, rfl, hcell6⟩ := hx6' 0 (by simp)
            have hcell6 : w6.cell? a6 = some (.int .u8 b) := by rw [show a6.add (0 : Nat) = a6 by cases a6; rfl] at hcell6; exact hcell6
            have hfirst : w6.cell? ⟨w2.heap.size, (y % 8).toNat, none⟩ = some (.int .i64 (b + 1)) := by
              have := (HCF.out _ hown6).1
              rwa [HFZ.out] at this
            have HO6 := Lib.hid hown6
            clear hv6 hx6 hb6 hx6' hown6 H5 hc4 hz4
            simp only [List.length_cons, List.length_nil, Nat.zero_add] at hc6 ⊢
            go_wp2_with fail
            go_quiet (fail)
            go_wp2_with fail
            go_roundw
            case rel => exact ⟨j + 1, n, m, F, by omega, by go_num, by omega, H6.out.step (below_drewN (Below.refl _ _) _), HF.out, own_drewN HO6.out _⟩
            case measure => simp [intOf]; omega
          · have hzx : (z == b) = false := by rw [beq_eq_false_iff_ne]; exact fun e => hxz e.symm
            go_wp2_with fail
            refine ((HL.out.step (below_lit _ _)).known (slot := y % 8) (xs := [b]) (ys := [z]) (lit_u8 wr [b] _ _ (by simp)) (by intro u hu; simp at hu; omega) hk0 (by omega) HMZ.out).mono ?_
            rw [show (if [z] = [b] then (31 : Int) else 33) = 33 by simp; exact fun e => hxz e.symm]
            rintro e w' ⟨rfl, rfl⟩
            have hb5 := below_lit wr (.cells (u8s [b]).toArray 5 (0, 0))
            have H5 := Lib.hid (HL.out.step hb5)
            have hown5 := own_keep HO.out (fun k hk => hb5.block k (HO.out.lt k hk).2)
            obtain ⟨hc4, hz4⟩ := HCF.out _ hown5
            rw [HFZ.out] at hc4
            have HO5 := Lib.hid hown5
            obtain ⟨w5, hw5⟩ : ∃ w5, w5 = wr.alloc (.cells (u8s [b]).toArray 5 (0, 0)) := ⟨_, rfl⟩
            rw [← hw5] at H5 hc4 hz4 HO5 ⊢
            clear hb5 hown5 hw5
            go_wp2_with fail
            refine (H5.out.get (slot := y % 8) hk0 (by omega)).mono ?_
            rintro e w6 ⟨v6, x6, rfl, hv6, _, hx6, hb6⟩
            rw [HMZ.out] at hx6
            have hx : x6 = [z] := by
              rcases hx6 with h | h
              · cases h; rfl
              · cases h.1
            subst hx
            rw [HMZ.out]
            have H6 := Lib.hid (H5.out.step hb6)
            have hown6 := own_keep HO5.out (fun k hk => hb6.block k (HO5.out.lt k hk).2)
            obtain ⟨ao6, c6, rfl, hc6, hm6, hx6'⟩ := hv6.intsAt
            obtain ⟨a6, rfl, hcell6⟩ := hx6' 0 (by simp)
            have hcell6 : w6.cell? a6 = some (.int .u8 z) := by rw [show a6.add (0 : Nat) = a6 by cases a6; rfl] at hcell6; exact hcell6
            have hfirst : w6.cell? ⟨w2.heap.size, (y % 8).toNat, none⟩ = some (.int .i64 (z + 1)) := by
              have := (HCF.out _ hown6).1
              rwa [HFZ.out] at this
            have HO6 := Lib.hid hown6
            clear hv6 hx6 hb6 hx6' hown6 H5 hc4 hz4
            simp only [List.length_cons, List.length_nil, Nat.zero_add] at hc6 ⊢
            go_wp2_with fail
            go_quiet (fail)
            go_wp2_with fail
            go_roundw
            case rel => exact ⟨j + 1, n, m, F, by omega, by go_num, by omega, H6.out.step (below_drewN (Below.refl _ _) _), HF.out, own_drewN HO6.out _⟩
            case measure => simp [intOf]; omega
    · have hjl : xs.length = j := by omega
      subst hjl
      go_wp2_with fail
      go_ret
      exact ⟨rfl, hb1.out.trans (HL.out.below.mono hb1.out.size)⟩

theorem learnerKeeps_walk {v : Value} {xs : List Int} {x1 x2 : Int} {W : World} (hv : SlR W v (u8s xs)) (wx : ∀ x ∈ xs, (Lit.int .u8 x).wf = true) (wx1 : (Lit.int .u8 x1).wf = true) (wx2 : (Lit.int .u8 x2).wf = true) :
    Calls Try.prog 5 #[v, .int .u8 x1, .int .u8 x2] W fun e W' => e = .returned (.bool true) ∧ Below W.heap.size W W' := by
  simp [Lit.wf, IntKind.min, IntKind.max, IntKind.signed, IntKind.bits] at wx1 wx2
  by_cases hl : xs.length ≤ 40
  · exact learnerKeeps_in hv (u8_of_wf wx) hl (by omega) (by omega)
  · obtain ⟨ao, c, rfl, hc, hm, _⟩ := hv.intsAt
    go_enter Try.func5, Try.ntmps5
    go_wp2_with (go_at_call 7; refine (awake_any W).mono ?_; rintro e w1 ⟨rfl, hb1⟩; have hb1 := Lib.hid hb1)
    go_ret
    exact ⟨rfl, hb1.out⟩
theorem learnerKeeps_holds : Rows.LearnerKeepsSaid :=
  OpenClaim.holds_of_wide 5 Try.f5 rfl rfl rfl rfl rfl rfl rfl ⟨rfl, rfl, rfl, rfl, rfl⟩ rfl rfl rfl rfl rfl (by kernel_rfl) Try.func5 (by kernel_rfl)
    (of_decide_eq_true (by kernel_rfl)) (by unfold Func.isWrapper; rw [if_neg (by decide +kernel)]; exact ⟨rfl, rfl⟩)
    (fun os started H enc _ => law_frame (C := Try.checked) (fn := Try.f5) (s := Rows.learnerKeepsSpec) (tb := 4) Try.own started (by kernel_rfl) Try.func5 Try.laidOut rfl (by kernel_rfl) Try.underlying4 (by kernel_rfl)
      (fun ds hd => by match ds, hd with | [_, _, _], _ => exact ⟨rfl, rfl, rfl⟩)
      (ChangeSpec.witness6 (enc := enc) (C := Try.checked) false ⟨#[], #[.slice none 0 0, .int .u8 0, .int .u8 0], []⟩ 8 (by kernel_rfl) (by kernel_rfl) (by kernel_rfl) (by kernel_rfl))
      (fun W base args ds p hval0 hA0 _ => by
        have hval : ∀ (j : Nat) t v, Try.f5.params[j]? = some t → args[j]? = some v → Value.okWide Try.prog W .any base t v := hval0
        have hA : DataW.TrodAll enc Try.prog W 0 (fun _ => true) true Try.f5.params.toList args.toList ds p := hA0
        rw [Try.params5] at hA hval
        obtain ⟨v0, v1, v2, d0, d1, d2, p0, p1, p2, rfl, rfl, rfl, h0, h1, h2⟩ := trodAll_three hA
        obtain ⟨x0, hx0, wx0⟩ := arg_ints Try.underlying28 Try.underlying5 (by kernel_rfl) (hval 0 28 v0 rfl rfl) h0
        obtain ⟨x1, rfl, rfl, rfl, wx1⟩ := open_int Try.underlying5 (hval 1 5 v1 rfl rfl) h1
        obtain ⟨x2, rfl, rfl, rfl, wx2⟩ := open_int Try.underlying5 (hval 2 5 v2 rfl rfl) h2
        exact learnerKeeps_walk hx0 wx0 wx1 wx2))

end Go.Proofs.Ytfkganccglmmlaa
