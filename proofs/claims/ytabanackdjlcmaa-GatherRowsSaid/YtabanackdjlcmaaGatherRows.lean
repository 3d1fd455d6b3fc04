/-
  GatherRows: of any reports of up to 4 replicas, any lengths, any number of segments: a shard's row is never below what was cut, has at each place the greater one of it and what all have, and no more segments than the shard. No condition: every input.
-/
import Derived.Test.YtabanackdjlcmaaGatW
import Derived.Test.YtabanackdjlcmaaFrame
namespace Go.Proofs.Ytabanackdjlcmaa
open Go.ChangeShapes Go.WideShapes Go.ChangeAt Go.RowKit Go.Maps
set_option maxRecDepth 100000

/-- What the first replicas reported of shard 5. -/
def RepsIs (L : List (List Int)) (k : Nat) (m : Rep) : Prop := (∀ i : Nat, i < k → m 5 i = some (maxI [[], L.getD i []])) ∧ ∀ i : Nat, k ≤ i → m 5 i = none
theorem RepsIs.zero (L : List (List Int)) : RepsIs L 0 (fun _ _ => none) := ⟨fun i hi => by omega, fun _ _ => rfl⟩
theorem RepsIs.more {L : List (List Int)} {k : Nat} {m : Rep} (h : RepsIs L k m) : RepsIs L (k + 1) (repG m 5 k (L.getD k [])) := by
  refine ⟨fun i hi => ?_, fun i hi => ?_⟩
  · unfold repG
    by_cases e : i = k
    · subst e; rw [putG_self, h.2 i (Nat.le_refl _)]; rfl
    · rw [putG_ne _ _ _ _ _ _ (by rintro ⟨_, h2⟩; omega)]; exact h.1 i (by omega)
  · unfold repG
    rw [putG_ne _ _ _ _ _ _ (by rintro ⟨_, h2⟩; omega)]; exact h.2 i (by omega)
theorem RepsIs.least {L : List (List Int)} {k : Nat} {m : Rep} (h : RepsIs L k m) : leastB m 5 k = true := leastB_true (fun i hi => by rw [h.1 i hi]; simp)
theorem atI_take (xs : List Int) (n i : Nat) : atI (xs.take n) i = if i < n then atI xs i else 0 := by
  unfold atI
  simp only [List.getD, List.getElem?_take, Int.toNat_natCast]
  split <;> split <;> first | rfl | omega
theorem rowL_at (m : Rep) (n : Nat) (lens : List Int) (i : Nat) : atI (rowL m 5 n lens) i = max (atI lens i) (if i < n then atI (leastM m 5 n) i else 0) := by
  unfold rowL; rw [atI_max2, atI_take]
theorem rowL_len (m : Rep) (n : Nat) (lens : List Int) (h : lens.length ≤ n) : (rowL m 5 n lens).length ≤ n := by
  unfold rowL
  apply maxI_len
  intro r hr
  simp at hr
  rcases hr with rfl | rfl
  · exact h
  · simp; omega
theorem rowL_le (m : Rep) (n : Nat) (lens : List Int) : leB lens (rowL m 5 n lens) = true := by unfold rowL; exact le_max2_l _ _

set_option maxHeartbeats 2000000 in
theorem gatherRows_walk {W : World} {v0 v1 : Value} {L : List (List Int)} {lens : List Int} {b : Int} (h0 : RowsR W v0 L) (_ : ∀ r ∈ L, U64 r) (h1 : SlR W v1 (u64s lens)) (w1 : ∀ x ∈ lens, (Lit.int .u64 x).wf = true) (wb : (Lit.int .u8 b).wf = true) :
    Calls Try.prog 4 #[v0, v1, .int .u8 b] W fun e W' => e = .returned (.bool true) ∧ Below W.heap.size W W' := by
  have H0 := Lib.hid h0
  have H1 := Lib.hid h1
  have hu := u64_of_wf w1
  have HU := Lib.hid hu
  obtain ⟨ao, ac, rfl, hac, ham, _⟩ := h0
  obtain ⟨bo, bc, rfl, hbc, hbm⟩ := h1.form
  simp only [List.length_map] at *
  simp [Lit.wf, IntKind.min, IntKind.max, IntKind.signed, IntKind.bits] at wb
  obtain ⟨n, hn⟩ : ∃ n : Nat, (n : Int) = b % 4 + 1 := ⟨(b % 4 + 1).toNat, by omega⟩
  have hn1 : 1 ≤ n := by omega
  have hn4 : n ≤ 4 := by omega
  unfold maxLen at ham
  clear h1 w1 hu
  by_cases hin : 4 ≤ L.length ∧ lens.length ≤ n
  rotate_left
  · go_enter Try.func4, Try.ntmps4
    go_wp2_with (first
      | (go_at_call 13; refine (awake_any W).mono ?_; rintro e w1 ⟨rfl, hb1⟩; have HB1 := Lib.hid hb1)
      | fail)
    all_goals first
      | (go_ret
         exact ⟨rfl, HB1.out⟩)
      | (exfalso; omega)
  obtain ⟨hL4, hln⟩ := hin
  have hL4' : (4 : Int) ≤ L.length := by omega
  have hln' : (lens.length : Int) ≤ b % 4 + 1 := by omega
  go_enter Try.func4, Try.ntmps4
  go_wp2_with (first
    | (go_at_call 13; refine (awake_any W).mono ?_; rintro e w1 ⟨rfl, hb1⟩; have HB1 := Lib.hid hb1)
    | fail)
  simp only [← hn] at *
  refine (gnew_o w1).mono ?_
  rintro e w2 ⟨p, D0, rfl, hg2, hD0, hb2⟩
  obtain ⟨pb, rfl⟩ := hg2.ptr
  have HG2 := Lib.hid hg2
  have HB2 := Lib.hid (HB1.out.trans (hb2.mono HB1.out.size))
  have HD0 : Hid (∀ k, D0 k → W.heap.size ≤ k) := Lib.hid (fun k hk => by have := hD0 k hk; have := HB1.out.size; omega)
  clear hg2 hb2 hD0 hn wb
  go_wp2_with fail
  go_loopw [10] (fun i wr => ∃ (k : Nat) (D : Nat → Prop) (m : Rep), k ≤ n ∧ i = .int .i64 k ∧ GatO (.pointer (some ⟨pb, 0, none⟩)) D wr k m ∧ RepsIs L k m ∧ (∀ k, D k → W.heap.size ≤ k) ∧ Below W.heap.size W wr) (fun i _ => n - (intOf i).toNat)
  case atStart => exact ⟨0, _, _, by omega, rfl, HG2.out, RepsIs.zero L, HD0.out, HB2.out⟩
  case round =>
    obtain ⟨k, D, m, hk, rfl, hg, hri, hD, hbl⟩ := hrel
    have HG := Lib.hid hg
    have HR := Lib.hid hri
    have HD := Lib.hid hD
    have HB := Lib.hid hbl
    by_cases hlt : k < n
    · have hkL : k < L.length := by omega
      obtain ⟨a2, c2, hv, _, _, hx⟩ := H0.out.below HB.out (Nat.le_refl _)
      cases hv
      obtain ⟨a, u, rfl, hc, hs⟩ := hx k _ (List.getElem?_eq_getElem hkL)
      have hmore := HR.out.more
      have e1 : L.getD k [] = L[k] := by simp [List.getD, hkL]
      rw [e1] at hmore
      obtain ⟨so, sc, hse, hsc1, hsc2⟩ := hs.form
      simp only [List.length_map] at hse hsc1
      subst hse
      generalize L[k] = r at *
      have HMore := Lib.hid hmore
      have HS := Lib.hid hs
      clear hg hri hD hbl hx hmore e1 hs
      go_wp2_with fail
      · go_ret
        exact ⟨rfl, HB.out⟩
      · refine (HG.out.report HS.out (by omega) (by decide) ⟨by omega, by omega⟩ (by omega)).mono ?_
        rintro e w3 ⟨rfl, D', hg3, hD3, hk3⟩
        have HG3 := Lib.hid hg3
        have HB3 := Lib.hid (HB.out.trans (hk3.below HB.out.size HD.out))
        have HD3 : Hid (∀ k, D' k → W.heap.size ≤ k) := Lib.hid (fun k hk => by
          rcases hD3 k hk with h | h
          · exact HD.out k h
          · have := HB.out.size; omega)
        clear hg3 hD3 hk3
        go_wp2_with fail
        go_roundw
        case rel => exact ⟨k + 1, D', _, by omega, by go_num, HG3.out, HMore.out, HD3.out, HB3.out⟩
        case measure => simp [intOf]; omega
    · have hkn : k = n := by omega
      subst hkn
      clear hg hri hD hbl
      have hbA := below_lit wr (.cells #[.int .i64 5, .int .i64 k, .slice bo lens.length bc, .bool false] 35)
      have HBA := Lib.hid (HB.out.trans (hbA.mono HB.out.size))
      have HGA := Lib.hid (HG.out.step hbA)
      have H1A := Lib.hid (H1.out.below HBA.out (Nat.le_refl _))
      clear hbA
      go_wp2_with fail
      refine (HGA.out.row (id := 5) ⟨by decide, by decide⟩ hn1 hn4 H1A.out (by omega)).mono ?_
      rintro e w4 ⟨rl, rfl, hrl, hb4⟩
      obtain ⟨ro, rc, hre, hrc1, hrc2⟩ := hrl.form
      simp only [List.length_map] at hre hrc1
      subst hre
      have hRl := rowL_len m k lens hln
      have hRe := rowL_le m k lens
      have hRat := rowL_at m k lens
      obtain ⟨R, hR⟩ : ∃ R, R = rowL m 5 k lens := ⟨_, rfl⟩
      rw [← hR] at hRl hRe hRat hrl hrc1
      have HRat := Lib.hid hRat
      have hRl' : (R.length : Int) ≤ k := by omega
      have hb5 := below_lit w4 (.cells #[.int .i64 5, .slice ro R.length rc] 37)
      have HG5 := Lib.hid (HGA.out.step (hb4.trans (hb5.mono hb4.size)))
      have HB5 := Lib.hid (HBA.out.trans ((hb4.trans (hb5.mono hb4.size)).mono HBA.out.size))
      have hrl5 := Lib.hid (hrl.below hb5 (Nat.le_refl _))
      have hcm := heap_alloc_new w4 (.cells #[.int .i64 5, .slice ro R.length rc] 37)
      have HCm := Lib.hid hcm
      have hRe := Lib.hid hRe
      rw [← hR]
      clear hRat hb4 hb5 hrl hcm hR HG HGA
      go_wp2_with fail
      refine (HG5.out.least (s := 5) (many := k) ⟨by decide, by decide⟩ hn1 hn4).mono ?_
      rintro e w6 ⟨lv, rfl, hlv, hb6⟩
      rw [HR.out.least]
      obtain ⟨lo, lc, hle, hlc1, hlc2⟩ := hlv.form
      simp only [List.length_map] at hle hlc1
      subst hle
      have HLv := Lib.hid hlv
      have hrl6 := Lib.hid (hrl5.out.below hb6 (Nat.le_refl _))
      have HB6 := Lib.hid (HB5.out.trans (hb6.mono HB5.out.size))
      have H16 := Lib.hid (H1.out.below HB6.out (Nat.le_refl _))
      have hcm6 := (hb6.block w4.heap.size (by simp)).trans HCm.out
      have y0 := World.news_of_block hcm6 0 _ rfl
      have y1 := World.news_of_block hcm6 1 _ rfl
      obtain ⟨lm, hlm⟩ : ∃ lm, lm = leastM m 5 k := ⟨_, rfl⟩
      rw [← hlm] at HRat HLv hlc1
      rw [← hlm]
      have y0' : w6.cell? ⟨w4.heap.size, 0, none⟩ = some (.int .i64 5) := y0
      have y1' : w6.cell? ⟨w4.heap.size, 1, none⟩ = some (.slice ro R.length rc) := y1
      have HLe := Lib.hid (le_any H16.out hrl6.out)
      rw [hRe.out] at HLe
      have HAt1 := Lib.hid (fun j : Int => at_any (i := j) H16.out)
      have HAt2 := Lib.hid (fun j : Int => at_any (i := j) HLv.out)
      have HAt3 := Lib.hid (fun j : Int => at_any (i := j) hrl6.out)
      have ha0 : ∀ j : Nat, 0 ≤ atI lens j := fun j => (HU.out.at j).1
      have HA0 := Lib.hid ha0
      clear hlv hb6 hcm6 y0 y1 HG5 HB5 hrl5 HCm hlm ha0 HR
      go_wp2_with fail
      go_loop [15, 16] (fun i _ => ∃ j : Nat, j ≤ 4 ∧ i = .int .i64 j) (fun i _ => 4 - (intOf i).toNat)
      case atStart => exact ⟨0, by omega, rfl⟩
      case round =>
        obtain ⟨j, hj, rfl⟩ := hrel
        by_cases hj4 : j < 4
        · have hc := HRat.out j
          have ha := HA0.out j
          have g1 := HAt1.out j
          have g2 := HAt2.out j
          have g3 := HAt3.out j
          generalize atI lens j = a at *
          generalize atI lm j = b' at *
          generalize atI R j = c at *
          have hcs : (j < k ∧ a < b' ∧ c = b') ∨ (j < k ∧ b' ≤ a ∧ c = a) ∨ (k ≤ j ∧ c = a) := by
            by_cases h1 : j < k
            · rw [if_pos h1] at hc; omega
            · rw [if_neg h1] at hc; omega
          clear hc
          rcases hcs with ⟨hjk, hab, hc⟩ | ⟨hjk, hab, hc⟩ | ⟨hjk, hc⟩
          all_goals
            rw [hc] at g3
            clear hc
            have G1 := Lib.hid g1
            have G2 := Lib.hid g2
            have G3 := Lib.hid g3
            clear g1 g2 g3
            go_wp2_with (go_at_call 19; first
              | ((with_reducible refine G1.out.mono ?_); rintro e w' ⟨rfl, rfl⟩)
              | ((with_reducible refine G2.out.mono ?_); rintro e w' ⟨rfl, rfl⟩)
              | ((with_reducible refine G3.out.mono ?_); rintro e w' ⟨rfl, rfl⟩))
            go_round
          all_goals first
            | exact ⟨j + 1, by omega, by go_num⟩
            | (simp [intOf]; omega)
        · have hj44 : j = 4 := by omega
          subst hj44
          go_wp2_with (go_at_call 20; ((with_reducible refine HLe.out.mono ?_); rintro e w' ⟨rfl, rfl⟩))
          go_ret
          exact ⟨rfl, HB6.out⟩

theorem gatherRows_holds : Rows.GatherRowsSaid :=
  OpenClaim.holds_of_wide 4 Try.f4 rfl rfl rfl rfl rfl rfl rfl ⟨rfl, rfl, rfl, rfl, rfl⟩ rfl rfl rfl rfl rfl (by kernel_rfl) Try.func4 (by kernel_rfl)
    (of_decide_eq_true (by kernel_rfl)) (by unfold Func.isWrapper; rw [if_neg (by decide +kernel)]; exact ⟨rfl, rfl⟩)
    (fun os started H enc _ => law_frame (C := Try.checked) (fn := Try.f4) (s := Rows.gatherRowsSpec) (tb := 4) Try.own started (by kernel_rfl) Try.func4 Try.laidOut rfl (by kernel_rfl) Try.underlying4 (by kernel_rfl)
      (fun ds hd => by match ds, hd with | [_, _, _], _ => exact ⟨rfl, rfl, rfl⟩)
      (ChangeSpec.witness6 (enc := enc) (C := Try.checked) false ⟨#[], #[.slice none 0 0, .slice none 0 0, .int .u8 0], []⟩ 8 (by kernel_rfl) (by kernel_rfl) (by kernel_rfl) (by kernel_rfl))
      (fun W base args ds p hval0 hA0 _ => by
        have hval : ∀ (j : Nat) t v, Try.f4.params[j]? = some t → args[j]? = some v → Value.okWide Try.prog W .any base t v := hval0
        have hA : DataW.TrodAll enc Try.prog W 0 (fun _ => true) true Try.f4.params.toList args.toList ds p := hA0
        rw [Try.params4] at hA hval
        obtain ⟨v0, v1, v2, d0, d1, d2, p0, p1, p2, rfl, rfl, rfl, h0, h1, h2⟩ := trodAll_three hA
        obtain ⟨x0, hx0, wx0⟩ := arg_rows Try.underlying22 Try.underlying27 Try.underlying39 (by kernel_rfl) (by kernel_rfl) (hval 0 22 v0 rfl rfl) h0
        obtain ⟨x1, hx1, wx1⟩ := arg_ints Try.underlying27 Try.underlying39 (by kernel_rfl) (hval 1 27 v1 rfl rfl) h1
        obtain ⟨x2, rfl, rfl, rfl, wx2⟩ := open_int Try.underlying5 (hval 2 5 v2 rfl rfl) h2
        exact gatherRows_walk hx0 wx0 hx1 wx1 wx2))

end Go.Proofs.Ytabanackdjlcmaa
