/-
  ClientDeaf: messages for others, of numbers that aren't open, or of another sort, tell nothing, and change nothing. No conditions.
-/
import Derived.Test.YtdmfladjhjpafaaCliF
import Derived.Test.YtdmfladjhjpafaaMsO
import Derived.Test.YtdmfladjhjpafaaFrame
namespace Go.Proofs.Ytdmfladjhjpafaa
open Go.ChangeShapes Go.WideShapes Go.ChangeAt Go.RowKit Go.Maps
set_option maxRecDepth 1000000

def dkX (k : Int) : Cl := ⟨k, 0, 0, 0, []⟩
def dkA : CS := ⟨6, 0, [[3]], [0], fun _ => none⟩
theorem dk_ok {k : Int} (h : 1 ≤ k ∧ k ≤ 5) : ClOk dkA.shards (dkX k) :=
  ⟨h, by show (0 : Int) ≤ 0 ∧ (0 : Int) < 8; decide, by show (0 : Int) ≤ 0 ∧ (0 : Int) < 4; decide, by show U1 0; constructor <;> decide, (by intro a ha; cases ha), by show 0 ≤ 1024; omega, fun _ => ⟨[3], rfl, by show (0 : Int) < 1; decide⟩⟩
def dkS (k : Int) : CS := begL dkA (dkX k) 1
theorem dkS_l (k a : Int) : (dkS k).l a = if a = 1 then some (dkX k, 1) else none := rfl
/-- Does the message tell the call's outcome, as the law reckons it? -/
def deafB (kd : Int) (m : Ms) : Bool := m.client == 6 && m.seq == 1 && (kd == 1 && m.kind == 2 && m.sh == 0 && m.sg == 0 || kd == 2 && m.kind == 15 && m.pos == 0 || decide (2 < kd) && m.kind == 17)
theorem deaf_fits (kd : Int) (m : Ms) : deafB kd m = (m.client == 6 && m.seq == 1 && fitsB (dkX kd) m) := by
  unfold deafB fitsB dkX
  by_cases h2 : m.kind = 2
  · simp [h2]
  · by_cases h15 : m.kind = 15
    · simp [h15]
    · by_cases h17 : m.kind = 17
      · simp [h17]
      · simp [h2, h15, h17]
theorem deaf_yes {kd : Int} {m : Ms} (h : deafB kd m = true) : m.client = 6 ∧ m.seq = 1 ∧ fitsB (dkX kd) m = true := by
  rw [deaf_fits] at h
  simp only [Bool.and_eq_true, beq_iff_eq] at h
  exact ⟨h.1.1, h.1.2, h.2⟩
theorem deaf_no {kd : Int} {m : Ms} (h : deafB kd m = false) : m.client = (dkS kd).id → ∀ x k, (dkS kd).l m.seq = some (x, k) → fitsB x m = false := by
  intro hc x k hl
  have hc : m.client = 6 := hc
  rw [dkS_l] at hl
  by_cases e : m.seq = 1
  · rw [if_pos e] at hl
    cases hl
    rw [deaf_fits, hc, e] at h
    simpa using h
  · rw [if_neg e] at hl; cases hl
theorem dk_del (kd : Int) (b : Int) : (setL (dkS kd) 1 none).l b = none := by
  show (if b = 1 then none else (dkS kd).l b) = none
  by_cases e : b = 1
  · rw [if_pos e]
  · rw [if_neg e, dkS_l, if_neg e]
set_option maxHeartbeats 8000000 in
theorem clientDeaf_walk {x0 : Int} {m : Ms} {vv bv : Value} (w0 : (Lit.int .u8 x0).wf = true) {W : World} (hm : MsOk m) (hv : SlR W vv (u64s m.vec)) (hb : SlR W bv (u8s m.body)) :
    Calls Try.prog 5 #[.int .u8 x0, .agg (msC m vv bv)] W fun e W' => e = .returned (.bool true) ∧ Below W.heap.size W W' := by
  simp [Lit.wf, IntKind.min, IntKind.max, IntKind.signed, IntKind.bits] at w0
  obtain ⟨a0, a1⟩ := w0
  have HM := Lib.hid hm
  have HBv := Lib.hid hb
  obtain ⟨vo, vc, rfl, _, _⟩ := hv.form
  obtain ⟨bo, bc, rfl, _, _⟩ := hb.form
  simp only [List.length_map] at *
  obtain ⟨kd, hkd⟩ : ∃ kd, x0 % 5 + 1 = kd := ⟨_, rfl⟩
  have hk5 : 1 ≤ kd ∧ kd ≤ 5 := by omega
  have HKd := Lib.hid hkd
  have hs0 := (SepW.nil (Below.refl W.heap.size W)).newBlk (msC m (.slice vo m.vec.length vc) (.slice bo m.body.length bc)) 39
  have HS0 := Lib.hid hs0
  have HAw := Lib.hid (cawake_any (W.alloc (.cells (msC m (.slice vo m.vec.length vc) (.slice bo m.body.length bc)) 39)))
  generalize hp : W.heap.size = p0 at HS0
  clear hm hb hv hs0 hkd
  go_enter Try.func5, Try.ntmps5
  go_wp2_with fail
  refine HAw.out.mono ?_
  rintro e w1 ⟨rfl, hb1⟩
  have HS1 := Lib.hid (HS0.out.step hb1)
  have HP := Lib.hid hp
  obtain ⟨d9, _⟩ := HS1.out.blk 0 rfl 9 _ rfl
  obtain ⟨d10, _⟩ := HS1.out.blk 0 rfl 10 _ rfl
  clear hb1 HS0 HAw hp
  by_cases hlen : m.vec.length ≤ 20 ∧ m.body.length ≤ 100
  rotate_left
  · by_cases h20 : m.vec.length ≤ 20
    · have hli : decide ((20 : Int) < (m.vec.length : Int)) = false := decide_eq_false (by omega)
      have hlj : (100 : Int) < (m.body.length : Int) := by omega
      go_wp2_with fail
      go_ret
      exact ⟨rfl, by rw [← HP.out]; exact HS1.out.below⟩
    · have hli : (20 : Int) < (m.vec.length : Int) := by omega
      go_wp2_with fail
      go_ret
      exact ⟨rfl, by rw [← HP.out]; exact HS1.out.below⟩
  · obtain ⟨hl0, hl1⟩ := hlen
    have hli : decide ((20 : Int) < (m.vec.length : Int)) = false := decide_eq_false (by omega)
    have hlj : decide ((100 : Int) < (m.body.length : Int)) = false := decide_eq_false (by omega)
    go_wp2_with fail
    obtain ⟨hr, ho, hb⟩ := new_args w1 [3] [0] (by decide) (by decide) 3 29 3
    refine ((HS1.out.step hb).cliNew (id := 6) (by constructor <;> decide) (by decide) hr (by decide) ho (by decide) (by decide)).mono ?_
    rintro e w2 ⟨b0, D0, rfl, hs2⟩
    have HS2 : Hid (SepW W w2 [obCli (.pointer (some ⟨b0, 0, none⟩)) D0 0 dkA, obBlk p0 (.cells (msC m (.slice vo m.vec.length vc) (.slice bo m.body.length bc)) 39)]) := Lib.hid hs2
    clear hs2 hr ho hb HS1 d9 d10
    go_upto_region 10 with fail
    rw [HKd.out]
    go_wp2_with fail
    refine (HS2.out.cliBegin 0 rfl (x := dkX kd) (sv := .slice none 0 0) (SlR.nil _) (dk_ok hk5) (Or.inl rfl) (Or.inl rfl) (fun _ => rfl) (by decide) (by show (0 : Int) < 1000000; decide)).mono ?_
    rintro e w3 ⟨g, bv3, D3, rfl, hs3⟩
    have hs4 := hs3.sub (List.sublist_cons_self _ _)
    have HS4 : Hid (SepW W w3 [obCli (.pointer (some ⟨b0, 0, none⟩)) D3 2 (dkS kd), obBlk p0 (.cells (msC m (.slice vo m.vec.length vc) (.slice bo m.body.length bc)) 39)]) := Lib.hid hs4
    obtain ⟨d0, _⟩ := hs4.blk 1 rfl 0 _ rfl
    obtain ⟨d3, _⟩ := hs4.blk 1 rfl 3 _ rfl
    obtain ⟨d4, _⟩ := hs4.blk 1 rfl 4 _ rfl
    obtain ⟨d5, _⟩ := hs4.blk 1 rfl 5 _ rfl
    obtain ⟨d6, _⟩ := hs4.blk 1 rfl 6 _ rfl
    obtain ⟨d7, _⟩ := hs4.blk 1 rfl 7 _ rfl
    clear hs3 hs4 HS2
    go_upto_region 11 with fail
    go_cut [9] (fun s9 wx => s9 = .bool (deafB kd m) ∧ wx = w3)
    case first =>
      have HDef : Hid (∀ b, b = deafB kd m → Value.bool b = .bool (deafB kd m)) := Lib.hid (fun b e => by rw [e])
      cases q1 : (m.client == 6)
      · go_wp2_with fail
        go_meet
        exact ⟨HDef.out _ (by unfold deafB; rw [q1]; rfl), rfl⟩
      · cases q2 : (m.seq == 1)
        · go_wp2_with fail
          go_meet
          exact ⟨HDef.out _ (by unfold deafB; rw [q1, q2]; rfl), rfl⟩
        · have hk3 : (kd = 1) ∨ (kd = 2) ∨ 2 < kd := by omega
          rcases hk3 with hk | hk | hk
          · subst hk
            cases q3 : (m.kind == 2)
            · go_wp2_with fail
              go_meet
              exact ⟨HDef.out _ (by unfold deafB; rw [q1, q2, q3]; rfl), rfl⟩
            · cases q4 : (m.sh == 0)
              · go_wp2_with fail
                go_meet
                exact ⟨HDef.out _ (by unfold deafB; rw [q1, q2, q3, q4]; rfl), rfl⟩
              · cases q5 : (m.sg == 0)
                · go_wp2_with fail
                  go_meet
                  exact ⟨HDef.out _ (by unfold deafB; rw [q1, q2, q3, q4, q5]; rfl), rfl⟩
                · go_wp2_with fail
                  go_meet
                  exact ⟨HDef.out _ (by unfold deafB; rw [q1, q2, q3, q4, q5]; rfl), rfl⟩
          · subst hk
            cases q3 : (m.kind == 15)
            · go_wp2_with fail
              go_meet
              exact ⟨HDef.out _ (by unfold deafB; rw [q1, q2, q3]; rfl), rfl⟩
            · cases q4 : (m.pos == 0)
              · go_wp2_with fail
                go_meet
                exact ⟨HDef.out _ (by unfold deafB; rw [q1, q2, q3, q4]; rfl), rfl⟩
              · go_wp2_with fail
                go_meet
                exact ⟨HDef.out _ (by unfold deafB; rw [q1, q2, q3, q4]; rfl), rfl⟩
          · have r1 : (kd == 1) = false := by rw [beq_eq_false_iff_ne]; omega
            have r2 : (kd == 2) = false := by rw [beq_eq_false_iff_ne]; omega
            have r3 : decide (2 < kd) = true := decide_eq_true hk
            cases q3 : (m.kind == 17)
            · go_wp2_with fail
              go_meet
              exact ⟨HDef.out _ (by unfold deafB; rw [q1, q2, q3, r1, r2, r3]; rfl), rfl⟩
            · go_wp2_with fail
              go_meet
              exact ⟨HDef.out _ (by unfold deafB; rw [q1, q2, q3, r1, r2, r3]; rfl), rfl⟩
    case rest =>
      obtain ⟨rfl, rfl⟩ := hcut
      clear d0 d3 d4 d5 d6 d7
      cases hdf : deafB kd m with
      | false =>
        have HD := Lib.hid hdf
        clear hdf
        go_wp2_with (first
          | (refine wpList_loadRow rfl 39 (.tmp 3) rfl p0 _ 39 (HS4.out.get 1 rfl) rfl _ Try.underlying39 rfl (by kernel_rfl) ?_)
          | fail)
        refine (HS4.out.cliNo 0 rfl (m := m) HM.out.seq HM.out.kind (deaf_no HD.out)).mono ?_
        rintro e w5 ⟨rfl, hs5⟩
        have HS5 := Lib.hid (hs5.newBlk rep0 41)
        clear hs5 HS4
        go_wp2_with (first
          | (refine wpList_loadRow rfl 39 (.tmp 3) rfl p0 _ 39 (HS5.out.get 2 rfl) rfl _ Try.underlying39 rfl (by kernel_rfl) ?_)
          | fail)
        refine (HS5.out.cliNo 1 rfl (m := m) HM.out.seq HM.out.kind (deaf_no HD.out)).mono ?_
        rintro e w6 ⟨rfl, hs6⟩
        have HS6 := Lib.hid (hs6.newBlk rep0 41)
        clear hs6 HS5
        go_wp2_with fail
        refine (HS6.out.cliOpen 2 rfl (K := [1]) (by decide) (by decide) (fun a ha => by
          rw [dkS_l] at ha
          by_cases e : a = 1
          · simp [e]
          · rw [if_neg e] at ha; cases ha)).mono ?_
        rintro e w7 ⟨ks, ko, kc, hks, rfl, hs7⟩
        obtain rfl := keys_one (a := 1) hks (fun b => by
          rw [dkS_l]
          by_cases e : b = 1
          · simp [e]
          · simp [e])
        have HB7 := Lib.hid hs7.below
        clear hs7 hks HS6
        go_wp2_with fail
        go_ret
        exact ⟨rfl, by rw [← HP.out]; exact HB7.out⟩
      | true =>
        obtain ⟨y1, y2, y3⟩ := deaf_yes hdf
        have HY := Lib.hid (And.intro y1 (And.intro y2 y3))
        clear hdf y1 y2 y3
        go_wp2_with (first
          | (refine wpList_loadRow rfl 39 (.tmp 3) rfl p0 _ 39 (HS4.out.get 1 rfl) rfl _ Try.underlying39 rfl (by kernel_rfl) ?_)
          | fail)
        refine (HS4.out.cliYes 0 rfl (m := m) (x := dkX kd) (k := 1) HY.out.1 HM.out.seq HM.out.kind (HBv.out.below HS4.out.below (Nat.le_refl _)) HM.out.body (by omega) (by rw [dkS_l, if_pos HY.out.2.1]) HY.out.2.2).mono ?_
        rintro e w5 ⟨so, sl, sc, code, qq, f, o, bo4, bl, bc4, at_, rfl, _, hs5⟩
        rw [HY.out.2.1] at hs5
        have HS5 := Lib.hid (hs5.newBlk (repC m.seq (dkX kd) (.slice so sl sc) code qq f o (.slice bo4 bl bc4) at_) 41)
        clear hs5 HS4
        go_wp2_with (first
          | (refine wpList_loadRow rfl 39 (.tmp 3) rfl p0 _ 39 (HS5.out.get 2 rfl) rfl _ Try.underlying39 rfl (by kernel_rfl) ?_)
          | fail)
        refine (HS5.out.cliNo 1 rfl (m := m) HM.out.seq HM.out.kind (fun _ x k e => by rw [dk_del] at e; cases e)).mono ?_
        rintro e w6 ⟨rfl, hs6⟩
        have HS6 := Lib.hid (hs6.newBlk rep0 41)
        clear hs6 HS5
        go_wp2_with fail
        refine (HS6.out.cliOpen 2 rfl (K := []) (by decide) (by decide) (fun a ha => by rw [dk_del] at ha; cases ha)).mono ?_
        rintro e w7 ⟨ks, ko, kc, hks, rfl, hs7⟩
        obtain rfl := keys_none hks (fun b => dk_del kd b)
        have HB7 := Lib.hid hs7.below
        clear hs7 hks HS6
        go_wp2_with fail
        go_ret
        exact ⟨rfl, by rw [← HP.out]; exact HB7.out⟩
theorem clientDeaf_holds : Rows.ClientDeafSaid :=
  OpenClaim.holds_of_wide 5 Try.f5 rfl rfl rfl rfl rfl rfl rfl ⟨rfl, rfl, rfl, rfl, rfl⟩ rfl rfl rfl rfl rfl (by kernel_rfl) Try.func5 (by kernel_rfl)
    (of_decide_eq_true (by kernel_rfl)) (by unfold Func.isWrapper; rw [if_neg (by decide +kernel)]; exact ⟨rfl, rfl⟩)
    (fun os started H enc _ => law_frame (C := Try.checked) (fn := Try.f5) (s := Rows.clientDeafSpec) (tb := 4) Try.own started (by kernel_rfl) Try.func5 Try.laidOut rfl (by kernel_rfl) Try.underlying4 (by kernel_rfl)
      (fun ds hd => by match ds, hd with | [_, _], _ => exact ⟨rfl, rfl, rfl⟩)
      (ChangeSpec.witness6 (enc := enc) (C := Try.checked) false ⟨#[], #[.int .u8 0, .agg #[.int .i64 0, .int .u64 0, .int .u64 0, .int .i64 0, .int .i64 0, .int .u64 0, .int .u64 0, .int .u64 0, .int .i64 0, .slice none 0 0, .slice none 0 0]], []⟩ 8 (by kernel_rfl) (by kernel_rfl) (by kernel_rfl) (by kernel_rfl))
      (fun W base args ds p hval0 hA0 _ => by
        have hval : ∀ (j : Nat) t v, Try.f5.params[j]? = some t → args[j]? = some v → Value.okWide Try.prog W .any base t v := hval0
        have hA : DataW.TrodAll enc Try.prog W 0 (fun _ => true) true Try.f5.params.toList args.toList ds p := hA0
        rw [Try.params5] at hA hval
        obtain ⟨v0, v1, d0, d1, p0, p1, rfl, rfl, rfl, h0, h1⟩ := trodAll_two hA
        obtain ⟨x0, rfl, rfl, rfl, wx0⟩ := open_int Try.underlying5 (hval 0 5 v0 rfl rfl) h0
        obtain ⟨m1, vv1, bv1, rfl, wm1, hv1, hb1⟩ := Try.msg_open (hval 1 39 v1 rfl rfl) h1
        exact clientDeaf_walk wx0 wm1 hv1 hb1))

end Go.Proofs.Ytdmfladjhjpafaa
