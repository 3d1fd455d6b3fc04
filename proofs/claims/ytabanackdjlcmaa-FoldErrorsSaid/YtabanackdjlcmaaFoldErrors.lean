/-
  FoldErrors: of any commands: what is refused changes nothing: a state that was given only what went through is the same. No condition: every input.
-/
import Derived.Test.YtabanackdjlcmaaFErrT
import Derived.Test.YtabanackdjlcmaaRegU
import Derived.Test.YtabanackdjlcmaaFrame
namespace Go.Proofs.Ytabanackdjlcmaa
open Go.ChangeShapes Go.WideShapes Go.ChangeAt Go.RowKit Go.Maps
set_option maxRecDepth 100000

set_option maxHeartbeats 8000000 in
theorem foldErrors_walk {W : World} {v : Value} {L : List Cm} (h0 : CmL W v L) (w0 : ∀ x ∈ L, CmOk x) :
    Calls Try.prog 12 #[v] W fun e W' => e = .returned (.bool true) ∧ Below W.heap.size W W' := by
  have HL := Lib.hid h0
  have HW := Lib.hid w0
  obtain ⟨ao, ac, rfl, hac, ham⟩ := h0.form
  clear h0 w0
  go_enter Try.func12, Try.ntmps12
  go_wp2_with fail
  refine (fawake_any W).mono ?_
  rintro e w1 ⟨rfl, hb1⟩
  have HB1 := Lib.hid hb1
  clear hb1
  go_wp2_with fail
  refine (fnew_w W w1 HB1.out).mono ?_
  rintro e w2 ⟨b0, rfl, hf2⟩
  have HF2 := Lib.hid hf2
  clear hf2
  go_wp2_with fail
  refine (fnew_o w2).mono ?_
  rintro e w3 ⟨q, E, rfl, hq1, hq2, hq3⟩
  obtain ⟨c0, rfl⟩ := hq1.ptr
  have HT := Lib.hid (two_start HF2.out hq3 hq1 hq2)
  clear hq1 hq2 hq3
  go_wp2_with fail
  go_loopw [6] (fun i wr => ∃ (k : Nat) (F G : FS), k ≤ L.length ∧ k ≤ 24 ∧ i = .int .i64 k ∧ Twin F G ∧ F.l.length ≤ 96 * k ∧ FoldTwo W (.pointer (some ⟨b0, 0, none⟩)) (.pointer (some ⟨c0, 0, none⟩)) wr (10 * k) (10 * k) F G) (fun i _ => L.length - (intOf i).toNat)
  case atStart => exact ⟨0, _, _, by omega, by omega, rfl, Twin.zero, by simp [emptyFS], HT.out⟩
  case round =>
    clear HT HF2 HB1
    obtain ⟨k, F, G, hk, hk24, rfl, htw, hFl, h2⟩ := hrel
    have HTw := Lib.hid htw
    have HFl := Lib.hid hFl
    have H2 := Lib.hid h2
    clear htw hFl h2
    by_cases hlt : k < L.length ∧ k < 24
    · obtain ⟨hlt, hlt24⟩ := hlt
      have hx := List.getElem?_eq_getElem hlt
      have HOk := Lib.hid (HW.out _ (List.getElem_mem hlt))
      obtain ⟨a, rv, rfl, hr0, hfar⟩ := HL.out.far k _ hx
      generalize L[k] = c at *
      have HR0 := Lib.hid hr0
      have HFar := Lib.hid hfar
      clear hr0 hfar hx
      obtain ⟨op, client, seq, shard, segs, pos, rs⟩ := c
      obtain ⟨z0, z1, z2, z3, z4, z5, z6⟩ := HFar.out _ H2.out.below
      try simp only at z0 z1 z2 z3 z4 z5 z6
      have hki : (k : Int) < (L.length : Int) := by omega
      have hki2 : (k : Int) < 24 := by omega
      go_wp2_with fail
      refine (short_any (c := ⟨op, client, seq, shard, segs, pos, rs⟩) (v := rv) (HR0.out.below H2.out.below (Nat.le_refl _))).mono ?_
      rintro e w4 ⟨rfl, hb4⟩
      have H4 := Lib.hid (H2.out.step hb4)
      clear hb4 z0 z1 z2 z3 z4 z5 z6
      try simp only
      cases hsh : shortB rs
      · go_wp2_with fail
        go_ret
        exact ⟨rfl, H4.out.below⟩
      · obtain ⟨hs1, hs2⟩ := short_iff hsh
        have HS2 := Lib.hid hs2
        have HS1 := Lib.hid hs1
        clear hs1 hs2
        obtain ⟨z0, z1, z2, z3, z4, z5, z6⟩ := HFar.out _ H4.out.below
        try simp only at z0 z1 z2 z3 z4 z5 z6
        go_wp2_with fail
        refine (H4.out.apply (c := ⟨op, client, seq, shard, segs, pos, rs⟩) (v := rv) HR0.out (by have := HS1.out; simp only; omega) HOk.out (by have := HFl.out; omega) (by omega)).mono ?_
        rintro e w5 ⟨rfl, h5⟩
        have H5 := Lib.hid h5
        clear h5 z0 z1 z2 z3 z4 z5 z6
        have hlen := applyF_len F ⟨op, client, seq, shard, segs, pos, rs⟩ HS2.out
        try simp only at hlen
        have HLen := Lib.hid hlen
        clear hlen
        by_cases he : applyE F ⟨op, client, seq, shard, segs, pos, rs⟩ = 0
        · obtain ⟨hg, htw2⟩ := HTw.out.ok he
          have HTw2 := Lib.hid htw2
          have HG := Lib.hid hg
          rw [he]
          clear htw2 hg he
          obtain ⟨z0, z1, z2, z3, z4, z5, z6⟩ := HFar.out _ H5.out.below
          try simp only at z0 z1 z2 z3 z4 z5 z6
          go_wp2_with fail
          refine (H5.out.swap.apply (c := ⟨op, client, seq, shard, segs, pos, rs⟩) (v := rv) HR0.out (by have := HS1.out; simp only; omega) HOk.out (by rw [HTw.out.rest.1]; have := HFl.out; omega) (by omega)).mono ?_
          rintro e w6 ⟨rfl, h6⟩
          rw [HG.out]
          have H6 := Lib.hid h6.swap
          clear h6 z0 z1 z2 z3 z4 z5 z6
          go_wp2_with fail
          go_roundw
          case rel => exact ⟨k + 1, _, _, by omega, by omega, by go_num, HTw2.out, by have := HLen.out; have := HFl.out; have := HS1.out; omega, H6.out⟩
          case measure => simp [intOf]; omega
        · have HTw2 := Lib.hid (HTw.out.no he)
          generalize hxe : applyE F ⟨op, client, seq, shard, segs, pos, rs⟩ = x at *
          have hxb : (x == 0) = false := by simpa using he
          have hxd : decide (x = 0) = false := decide_eq_false he
          clear hxe
          go_wp2_with fail
          go_roundw
          case rel => exact ⟨k + 1, _, _, by omega, by omega, by go_num, HTw2.out, by have := HLen.out; have := HFl.out; have := HS1.out; omega, H5.out.more (by omega) (by omega)⟩
          case measure => simp [intOf]; omega
    · obtain ⟨r1, r2, r3⟩ := HTw.out.rest
      have HR1 := Lib.hid r1
      have HR2 := Lib.hid r2
      have HR3 := Lib.hid r3
      have HSL := Lib.hid HTw.out.shL
      clear r1 r2 r3
      have hdec : k = L.length ∨ (k = 24 ∧ (24 : Int) < (L.length : Int)) := by omega
      clear hlt
      have hFl2 : F.l.length ≤ 100000 := by have := HFl.out; omega
      have hN2 : 10 * k ≤ 1000 := by omega
      have HFq := Lib.hid hFl2
      have H2q := Lib.hid (H2.out.more (N' := 1000) (M' := 1000) hN2 hN2)
      clear hFl2 hN2 H2 HFl
      rcases hdec with rfl | ⟨rfl, hd2⟩
      all_goals
        go_wp2_with fail
        refine (H2q.out.one.spans (by have := HFq.out; omega)).mono ?_
        rintro e w4 ⟨v1, rfl, hown1, hb4⟩
        have H4 := Lib.hid (H2q.out.step hb4)
        obtain ⟨ao1, ac1, rfl, hac1, ham1⟩ := own_form hown1
        have hO1 := SpL.of_own hown1
        clear hown1
        have HO1 := Lib.hid hO1
        clear hb4 hO1
        go_wp2_with fail
        refine (H4.out.swap.one.spans (by rw [HR1.out]; have := HFq.out; omega)).mono ?_
        rintro e w5 ⟨v2, rfl, hown2, hb5⟩
        rw [HR1.out] at hown2
        have H5 := Lib.hid (H4.out.step hb5)
        obtain ⟨ao2, ac2, rfl, hac2, ham2⟩ := own_form hown2
        have HO2 := Lib.hid (SpL.of_own hown2)
        have HO1 := Lib.hid (SpL.below hb5 (Nat.le_refl _) HO1.out)
        clear hb5 hown2
        go_wp2_with fail
        refine (H5.out.one.len).mono ?_
        rintro e w6 ⟨rfl, rfl⟩
        go_wp2_with fail
        refine (H5.out.swap.one.len).mono ?_
        rintro e w6 ⟨rfl, rfl⟩
        rw [HR2.out]
        go_wp2_with fail
        refine (H5.out.one.low).mono ?_
        rintro e w6 ⟨rfl, rfl⟩
        go_wp2_with fail
        refine (H5.out.swap.one.low).mono ?_
        rintro e w6 ⟨rfl, rfl⟩
        rw [HR3.out]
        go_wp2_with fail
        refine (H5.out.one.shards (by decide)).mono ?_
        rintro e w6 ⟨ho, hc, vs, rfl, _, hb6⟩
        have H6 := Lib.hid (H5.out.step hb6)
        have HO2 := Lib.hid (SpL.below hb6 (Nat.le_refl _) HO2.out)
        have HO1 := Lib.hid (SpL.below hb6 (Nat.le_refl _) HO1.out)
        clear hb6
        go_wp2_with fail
        refine (H6.out.swap.one.shards (by decide)).mono ?_
        rintro e w7 ⟨ho2, hc2, vs2, rfl, _, hb7⟩
        rw [HSL.out]
        have H7 := Lib.hid (H6.out.step hb7)
        have HO2 := Lib.hid (SpL.below hb7 (Nat.le_refl _) HO2.out)
        have HO1 := Lib.hid (SpL.below hb7 (Nat.le_refl _) HO1.out)
        clear hb7
        go_wp2_with fail
        go_loopw [10] (fun i wr => ∃ j : Nat, j ≤ F.l.length ∧ i = .int .i64 j ∧ Below w7.heap.size w7 wr) (fun i _ => F.l.length - (intOf i).toNat)
        case atStart => exact ⟨0, by omega, rfl, Below.refl _ _⟩
        case round =>
          obtain ⟨j, hj, rfl, hbj⟩ := hrel
          have HBj := Lib.hid hbj
          clear hbj
          by_cases hlt : j < F.l.length
          · have hx := List.getElem?_eq_getElem hlt
            obtain ⟨za, rfl, z0, z1, z2, z3, z4⟩ := (SpL.below HBj.out (Nat.le_refl _) HO1.out).at j _ hx
            obtain ⟨ya, rfl, y0, y1, y2, y3, y4⟩ := (SpL.below HBj.out (Nat.le_refl _) HO2.out).at j _ hx
            generalize F.l[j] = x at *
            obtain ⟨xp, xsh, xsg, xof, xmn⟩ := x
            have hne := neqSq ⟨xp, xsh, xsg, xof, xmn⟩
            have hEG : Try.prog.eqGuardType Try.prog.depth 60 = false := by kernel_rfl
            simp only [spV] at hne
            simp only at z0 z1 z2 z3 z4 y0 y1 y2 y3 y4
            have hji : (j : Int) < (F.l.length : Int) := by omega
            clear hx
            go_wp2_with fail
            go_quiet (fail)
            go_wp2_with fail
            go_roundw
            case rel => exact ⟨j + 1, by omega, by go_num, below_drewN HBj.out _⟩
            case measure => simp [intOf]; omega
          · have hjl : j = F.l.length := by omega
            subst hjl
            go_wp2_with fail
            go_ret
            exact ⟨rfl, H7.out.below.trans (HBj.out.mono H7.out.below.size)⟩
theorem foldErrors_holds : Rows.FoldErrorsSaid :=
  OpenClaim.holds_of_wide 12 Try.f12 rfl rfl rfl rfl rfl rfl rfl ⟨rfl, rfl, rfl, rfl, rfl⟩ rfl rfl rfl rfl rfl (by kernel_rfl) Try.func12 (by kernel_rfl)
    (of_decide_eq_true (by kernel_rfl)) (by unfold Func.isWrapper; rw [if_neg (by decide +kernel)]; exact ⟨rfl, rfl⟩)
    (fun os started H enc _ => law_frame (C := Try.checked) (fn := Try.f12) (s := Rows.foldErrorsSpec) (tb := 4) Try.own started (by kernel_rfl) Try.func12 Try.laidOut rfl (by kernel_rfl) Try.underlying4 (by kernel_rfl)
      (fun ds hd => by match ds, hd with | [_], _ => exact ⟨rfl, rfl, rfl⟩)
      (ChangeSpec.witness6 (enc := enc) (C := Try.checked) false ⟨#[], #[.slice none 0 0], []⟩ 8 (by kernel_rfl) (by kernel_rfl) (by kernel_rfl) (by kernel_rfl))
      (fun W base args ds p hval0 hA0 _ => by
        have hval : ∀ (j : Nat) t v, Try.f12.params[j]? = some t → args[j]? = some v → Value.okWide Try.prog W .any base t v := hval0
        have hA : DataW.TrodAll enc Try.prog W 0 (fun _ => true) true Try.f12.params.toList args.toList ds p := hA0
        rw [Try.params12] at hA hval
        obtain ⟨v0, d0, rfl, rfl, h0⟩ := trodAll_one hA
        obtain ⟨x0, hx0, wx0⟩ := Try.cmds_open (hval 0 66 v0 rfl rfl) h0
        exact foldErrors_walk hx0 wx0))

end Go.Proofs.Ytabanackdjlcmaa
