/-
  LearnerFar: a slot far behind is known alone.
-/
import Derived.Test.YtfkganccglmmlaaLrnW
import Derived.Test.YtfkganccglmmlaaFrame
namespace Go.Proofs.Ytfkganccglmmlaa
open Go.ChangeShapes Go.WideShapes Go.ChangeAt Go.RowKit Go.Maps

def upTo (n : Nat) : List Int := (List.range n).map fun i : Nat => (i : Int)
theorem upTo_len (n : Nat) : (upTo n).length = n := by simp [upTo]
theorem upTo_at (n i : Nat) (h : i < n) : atI (upTo n) i = i := by simp [atI, upTo, h]
def farK (slot : Int) : Kn := putK (fun _ => none) slot [120]
theorem far_none (slot j : Int) (h : j ≠ slot) : farK slot j = none := by simp [farK, putK, h]
theorem far_self (slot : Int) : farK slot slot = some [120] := by simp [farK, putK]
def farNext (slot : Int) : Int := if slot = 0 then 1 else 0
theorem far_next (slot : Int) (h0 : 0 ≤ slot) : IsNext (farK slot) (farNext slot) := by
  unfold farNext
  by_cases h : slot = 0
  · subst h
    refine ⟨by decide, fun j h1 h2 => ?_, far_none _ _ (by decide)⟩
    rw [if_pos rfl] at h2
    rw [show j = 0 by omega, far_self]; simp
  · rw [if_neg h]
    exact ⟨by decide, fun j h1 h2 => by omega, far_none _ _ (by omega)⟩
theorem far_top (slot : Int) (h0 : 0 ≤ slot) (h1 : slot < 18446744073709551615) : IsTop (farK slot) (slot + 1) := by
  have h : IsTop (fun _ => none) 0 := ⟨by omega, by omega, by simp, Or.inl rfl⟩
  have := h.put (xs := [120]) h0 h1
  rwa [show max 0 (slot + 1) = slot + 1 by omega] at this
theorem unk_far (slot : Int) (d : Nat) (hd : (d : Int) ≤ slot) : unk (farK slot) 0 d = upTo d := by
  induction d with
  | zero => rfl
  | succ d ih =>
    have e : farK slot (0 + (d : Int)) = none := far_none _ _ (by omega)
    rw [unk_hit e, ih (by omega)]
    simp [upTo, List.range_succ]
theorem far_gaps (slot : Int) (h0 : 0 ≤ slot) (k : Nat) : (unk (farK slot) (farNext slot) (slot + 1 - farNext slot).toNat).take k = upTo (min k slot.toNat) := by
  unfold farNext
  by_cases h : slot = 0
  · subst h
    simp [unk, upTo]
  · rw [if_neg h]
    have e1 : (slot + 1 - 0).toNat = slot.toNat + 1 := by omega
    have e2 : farK slot (0 + (slot.toNat : Int)) = some [120] := by rw [show (0 : Int) + slot.toNat = slot by omega]; exact far_self slot
    rw [e1, unk_miss e2, unk_far _ _ (by omega)]
    simp only [upTo, ← List.map_take, List.take_range]
theorem LW.farGaps {w1 w : World} {n : Nat} {slot : Int} (h : LW w1 w n (farK slot)) (h0 : 0 ≤ slot) (h1 : slot < 18446744073709551615) (most : Nat) (hm : most ≤ 255) :
    Calls Try.prog 16 #[lp w1, .int .i64 most] w fun e W' => ∃ v, e = .returned v ∧ SlR W' v (u64s (upTo (min most slot.toNat))) ∧ Below w.heap.size w W' := by
  by_cases hm0 : most = 0
  · subst hm0
    refine (gaps_few _ _ (by decide) w).mono ?_
    rintro e w' ⟨rfl, hb⟩
    exact ⟨_, rfl, by simpa [upTo] using SlR.nil w', hb⟩
  · refine (h.gaps (far_next slot h0) (far_top slot h0 h1) (most := most) (by omega) (by omega)).mono ?_
    rintro e w' ⟨v, rfl, hs, hb⟩
    rw [far_gaps slot h0] at hs
    exact ⟨v, rfl, by simpa using hs, hb⟩

set_option maxHeartbeats 1000000 in
theorem learnerFar_in {slot : Int} (k : Nat) {W : World} (h0 : 0 ≤ slot) (h1 : slot ≤ 18446744073709551615) (hk : k ≤ 255) :
    Calls Try.prog 6 #[.int .u64 slot, .int .u8 k] W fun e W' => e = .returned (.bool true) ∧ Below W.heap.size W W' := by
  have kc := fun (w : World) (C : Array Value) (n c : Nat) => Lib.run_convert_bytes_const (P := Try.prog) w 28 5 C n c Try.underlying28 Try.underlying5
  by_cases hmax : slot = 18446744073709551615
  · subst hmax
    go_enter Try.func6, Try.ntmps6
    go_wp2_with (go_at_call 7; refine (awake_any W).mono ?_; rintro e w1 ⟨rfl, hb1⟩; have hb1 := Lib.hid hb1)
    refine (new_lw w1).mono ?_
    rintro e w2 ⟨rfl, h2⟩
    have H2 := Lib.hid h2
    clear h2
    go_wp2_with fail
    refine (learn_worn _ _ _).mono ?_
    rintro e w' ⟨rfl, rfl⟩
    have H3 := Lib.hid (H2.out.step (below_lit w2 (.cells (u8s [120]).toArray 5 (1, 2))))
    go_wp2_with fail
    refine (H3.out.top (top := 0) ⟨by omega, by omega, by simp, Or.inl rfl⟩).mono ?_
    rintro e w' ⟨rfl, rfl⟩
    go_wp2_with fail
    go_ret
    exact ⟨rfl, hb1.out.trans (H3.out.below.mono hb1.out.size)⟩
  · have h1 : slot < 18446744073709551615 := by omega
    have hne : (slot == 18446744073709551615) = false := by rw [beq_eq_false_iff_ne]; exact hmax
    clear hmax
    go_enter Try.func6, Try.ntmps6
    go_wp2_with (go_at_call 7; refine (awake_any W).mono ?_; rintro e w1 ⟨rfl, hb1⟩; have hb1 := Lib.hid hb1)
    refine (new_lw w1).mono ?_
    rintro e w2 ⟨rfl, h2⟩
    have H2 := Lib.hid h2
    clear h2
    go_wp2_with fail
    refine ((H2.out.step (below_lit _ _)).learn (slot := slot) (xs := [120]) (lit_u8 w2 [120] _ _ (by decide)) (by unfold U8; decide) (by decide) h0 h1 (by decide) rfl).mono ?_
    rintro e w3 ⟨rfl, h3, _⟩
    have H3 : Hid (LW w1 w3 1 (farK slot)) := Lib.hid h3
    clear h3
    go_wp2_with fail
    refine (H3.out.top (far_top slot h0 h1)).mono ?_
    rintro e w' ⟨rfl, rfl⟩
    go_wp2_with fail
    refine (H3.out.farGaps h0 h1 k hk).mono ?_
    rintro e w4 ⟨v4, rfl, hs4, hb4⟩
    have H4 := Lib.hid (H3.out.step hb4)
    obtain ⟨ao, c, rfl, hc, hm, hx⟩ := hs4.intsAt
    rw [upTo_len] at hc hx ⊢
    have hx : ∀ i : Nat, i < min k slot.toNat → ∃ a, ao = some a ∧ w4.cell? (a.add i) = some (.int .u64 i) := fun i hi => by
      obtain ⟨a, ha, hh⟩ := hx i hi
      rw [upTo_at _ _ hi] at hh
      exact ⟨a, ha, hh⟩
    have HX := Lib.hid hx
    have hG := Lib.hid (show True from trivial)
    obtain ⟨g, hg⟩ : ∃ g, g = min k slot.toNat := ⟨_, rfl⟩
    rw [← hg] at hc HX ⊢
    have hgc : (slot < (k : Int) ∧ (g : Int) = slot) ∨ ((k : Int) ≤ slot ∧ g = k) := by omega
    clear hs4 hb4 hx hg H3 H2
    have HF := Lib.hid (far_next slot h0)
    have hgl : (g : Int) ≤ slot ∧ g ≤ 255 := by omega
    rcases hgc with ⟨hlt, hge⟩ | ⟨hlt, hge⟩
    · subst hge
      go_wp2_with fail
      go_loop [10] (fun i => ∃ j : Nat, j ≤ g ∧ i = .int .i64 j) (fun i => g - (intOf i).toNat)
      case atStart => exact ⟨0, by omega, rfl⟩
      case round =>
        obtain ⟨j, hj, rfl⟩ := hrel
        by_cases hjg : j < g
        · obtain ⟨a, rfl, hcell⟩ := HX.out j hjg
          have hcella : j = 0 → w4.cell? a = some (.int .u64 0) := fun e => by subst e; rw [show a.add 0 = a by cases a; rfl] at hcell; simpa using hcell
          go_wp2
          go_round
          case rel => exact ⟨j + 1, by omega, by go_num⟩
          case measure => simp [intOf]; omega
        · have hjg2 : g = j := by omega
          subst hjg2
          by_cases hs0 : (g : Int) = 0
          · have hnx : farNext (g : Int) = 1 := by unfold farNext; rw [if_pos hs0]
            rw [hnx] at HF
            have hz : ((g : Int) == 0) = true := by rw [beq_iff_eq]; exact hs0
            clear hs0 hnx
            go_wp2_with (first
              | (go_at_call 11; refine (H4.out.next HF.out).mono ?_; rintro e w' ⟨rfl, rfl⟩)
              | fail)
            refine (H4.out.from (slot := (g : Int)) (most := 5) h0 (by omega) (by decide)).mono ?_
            rintro e w9 ⟨v9, L9, rfl, hv9, hr9, hl9, he9, hb9⟩
            have hlen9 : L9.length = 1 := hr9.count (d := 1) hl9 he9 (by decide) (fun j hj => by rw [show j = 0 by omega, show (g : Int) + ((0 : Nat) : Int) = (g : Int) by omega, far_self]; simp) (Or.inr (far_none _ _ (by omega)))
            obtain ⟨ao9, c9, rfl, hc9, hm9, _⟩ := hv9.row
            have H9 := Lib.hid (H4.out.step hb9)
            clear hr9 hl9 he9 hb9 hv9
            rw [hlen9] at hc9 ⊢
            clear hlen9
            go_wp2_with fail
            go_ret
            exact ⟨rfl, hb1.out.trans (H9.out.below.mono hb1.out.size)⟩
          · have hnx : farNext (g : Int) = 0 := by unfold farNext; rw [if_neg hs0]
            rw [hnx] at HF
            have hz : ((g : Int) == 0) = false := by rw [beq_eq_false_iff_ne]; exact hs0
            clear hs0 hnx
            go_wp2_with (first
              | (go_at_call 11; refine (H4.out.next HF.out).mono ?_; rintro e w' ⟨rfl, rfl⟩)
              | fail)
            refine (H4.out.from (slot := (g : Int)) (most := 5) h0 (by omega) (by decide)).mono ?_
            rintro e w9 ⟨v9, L9, rfl, hv9, hr9, hl9, he9, hb9⟩
            have hlen9 : L9.length = 1 := hr9.count (d := 1) hl9 he9 (by decide) (fun j hj => by rw [show j = 0 by omega, show (g : Int) + ((0 : Nat) : Int) = (g : Int) by omega, far_self]; simp) (Or.inr (far_none _ _ (by omega)))
            obtain ⟨ao9, c9, rfl, hc9, hm9, _⟩ := hv9.row
            have H9 := Lib.hid (H4.out.step hb9)
            clear hr9 hl9 he9 hb9 hv9
            rw [hlen9] at hc9 ⊢
            clear hlen9
            go_wp2_with fail
            go_ret
            exact ⟨rfl, hb1.out.trans (H9.out.below.mono hb1.out.size)⟩
    · subst hge
      go_wp2_with fail
      go_loop [10] (fun i => ∃ j : Nat, j ≤ g ∧ i = .int .i64 j) (fun i => g - (intOf i).toNat)
      case atStart => exact ⟨0, by omega, rfl⟩
      case round =>
        obtain ⟨j, hj, rfl⟩ := hrel
        by_cases hjg : j < g
        · obtain ⟨a, rfl, hcell⟩ := HX.out j hjg
          have hcella : j = 0 → w4.cell? a = some (.int .u64 0) := fun e => by subst e; rw [show a.add 0 = a by cases a; rfl] at hcell; simpa using hcell
          go_wp2
          go_round
          case rel => exact ⟨j + 1, by omega, by go_num⟩
          case measure => simp [intOf]; omega
        · have hjg2 : g = j := by omega
          subst hjg2
          by_cases hs0 : slot = 0
          · have hnx : farNext slot = 1 := by unfold farNext; rw [if_pos hs0]
            rw [hnx] at HF
            have hz : (slot == 0) = true := by rw [beq_iff_eq]; exact hs0
            clear hs0 hnx
            go_wp2_with (first
              | (go_at_call 11; refine (H4.out.next HF.out).mono ?_; rintro e w' ⟨rfl, rfl⟩)
              | fail)
            refine (H4.out.from (slot := slot) (most := 5) h0 (by omega) (by decide)).mono ?_
            rintro e w9 ⟨v9, L9, rfl, hv9, hr9, hl9, he9, hb9⟩
            have hlen9 : L9.length = 1 := hr9.count (d := 1) hl9 he9 (by decide) (fun j hj => by rw [show j = 0 by omega, show slot + ((0 : Nat) : Int) = slot by omega, far_self]; simp) (Or.inr (far_none _ _ (by omega)))
            obtain ⟨ao9, c9, rfl, hc9, hm9, _⟩ := hv9.row
            have H9 := Lib.hid (H4.out.step hb9)
            clear hr9 hl9 he9 hb9 hv9
            rw [hlen9] at hc9 ⊢
            clear hlen9
            go_wp2_with fail
            go_ret
            exact ⟨rfl, hb1.out.trans (H9.out.below.mono hb1.out.size)⟩
          · have hnx : farNext slot = 0 := by unfold farNext; rw [if_neg hs0]
            rw [hnx] at HF
            have hz : (slot == 0) = false := by rw [beq_eq_false_iff_ne]; exact hs0
            clear hs0 hnx
            go_wp2_with (first
              | (go_at_call 11; refine (H4.out.next HF.out).mono ?_; rintro e w' ⟨rfl, rfl⟩)
              | fail)
            refine (H4.out.from (slot := slot) (most := 5) h0 (by omega) (by decide)).mono ?_
            rintro e w9 ⟨v9, L9, rfl, hv9, hr9, hl9, he9, hb9⟩
            have hlen9 : L9.length = 1 := hr9.count (d := 1) hl9 he9 (by decide) (fun j hj => by rw [show j = 0 by omega, show slot + ((0 : Nat) : Int) = slot by omega, far_self]; simp) (Or.inr (far_none _ _ (by omega)))
            obtain ⟨ao9, c9, rfl, hc9, hm9, _⟩ := hv9.row
            have H9 := Lib.hid (H4.out.step hb9)
            clear hr9 hl9 he9 hb9 hv9
            rw [hlen9] at hc9 ⊢
            clear hlen9
            go_wp2_with fail
            go_ret
            exact ⟨rfl, hb1.out.trans (H9.out.below.mono hb1.out.size)⟩

theorem learnerFar_walk {slot x1 : Int} {W : World} (wx0 : (Lit.int .u64 slot).wf = true) (wx1 : (Lit.int .u8 x1).wf = true) :
    Calls Try.prog 6 #[.int .u64 slot, .int .u8 x1] W fun e W' => e = .returned (.bool true) ∧ Below W.heap.size W W' := by
  simp [Lit.wf, IntKind.min, IntKind.max, IntKind.signed, IntKind.bits] at wx0 wx1
  obtain ⟨k, rfl⟩ := Int.eq_ofNat_of_zero_le (by omega : 0 ≤ x1)
  exact learnerFar_in k (by omega) (by omega) (by omega)

theorem learnerFar_holds : Rows.LearnerFarSaid :=
  OpenClaim.holds_of_wide 6 Try.f6 rfl rfl rfl rfl rfl rfl rfl ⟨rfl, rfl, rfl, rfl, rfl⟩ rfl rfl rfl rfl rfl (by kernel_rfl) Try.func6 (by kernel_rfl)
    (of_decide_eq_true (by kernel_rfl)) (by unfold Func.isWrapper; rw [if_neg (by decide +kernel)]; exact ⟨rfl, rfl⟩)
    (fun os started H enc _ => law_frame (C := Try.checked) (fn := Try.f6) (s := Rows.learnerFarSpec) (tb := 4) Try.own started (by kernel_rfl) Try.func6 Try.laidOut rfl (by kernel_rfl) Try.underlying4 (by kernel_rfl)
      (fun ds hd => by match ds, hd with | [_, _], _ => exact ⟨rfl, rfl, rfl⟩)
      (ChangeSpec.witness6 (enc := enc) (C := Try.checked) false ⟨#[], #[.int .u64 0, .int .u8 0], []⟩ 8 (by kernel_rfl) (by kernel_rfl) (by kernel_rfl) (by kernel_rfl))
      (fun W base args ds p hval0 hA0 _ => by
        have hval : ∀ (j : Nat) t v, Try.f6.params[j]? = some t → args[j]? = some v → Value.okWide Try.prog W .any base t v := hval0
        have hA : DataW.TrodAll enc Try.prog W 0 (fun _ => true) true Try.f6.params.toList args.toList ds p := hA0
        rw [Try.params6] at hA hval
        obtain ⟨v0, v1, d0, d1, p0, p1, rfl, rfl, rfl, h0, h1⟩ := trodAll_two hA
        obtain ⟨x0, rfl, rfl, rfl, wx0⟩ := open_int Try.underlying29 (hval 0 29 v0 rfl rfl) h0
        obtain ⟨x1, rfl, rfl, rfl, wx1⟩ := open_int Try.underlying5 (hval 1 5 v1 rfl rfl) h1
        exact learnerFar_walk wx0 wx1))

end Go.Proofs.Ytfkganccglmmlaa
