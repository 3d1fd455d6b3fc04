/-
  FoldDense: of any commands: each position below the length has just one record, each record that has a position is found by it; in a segment positions stand in the order of the records. No condition: every input.
-/
import Derived.Test.YtabanackdjlcmaaFDenR
import Derived.Test.YtabanackdjlcmaaRegU
import Derived.Test.YtabanackdjlcmaaFrame
import Derived.Deep.OwnRows
namespace Go.Proofs.Ytabanackdjlcmaa
open Go.ChangeShapes Go.WideShapes Go.ChangeAt Go.RowKit Go.Maps
set_option maxRecDepth 100000

def sumT (T : List Sh) : Int := sumI (T.map fun t => sumI t.lens)
theorem sumT_take {T : List Sh} {j : Nat} {t : Sh} (h : T[j]? = some t) : sumT (T.take (j + 1)) = sumT (T.take j) + sumI t.lens := by
  obtain ⟨hlt, e⟩ := List.getElem?_eq_some_iff.1 h
  unfold sumT
  rw [List.take_succ_eq_append_getElem hlt, List.map_append, e, sumI_app]
  simp [sumI]
theorem sumT_pos {T : List Sh} (h : ∀ t ∈ T, U64 t.lens) : 0 ≤ sumT T := by
  induction T with
  | nil => simp [sumT, sumI]
  | cons t r ih =>
    have h1 := ih (fun x hx => h x (by simp [hx]))
    have h2 := sumI_nonneg _ (h t (by simp))
    unfold sumT at h1 ⊢
    rw [List.map_cons, sumI_cons]; omega
theorem sumT_le {T : List Sh} (h : ∀ t ∈ T, U64 t.lens) (j : Nat) : sumT (T.take j) ≤ sumT T := by
  have e : sumT T = sumT (T.take j) + sumT (T.drop j) := by
    unfold sumT
    rw [← sumI_app, ← List.map_append, List.take_append_drop]
  have := sumT_pos (T := T.drop j) (fun t ht => h t (List.mem_of_mem_drop ht))
  omega

set_option maxHeartbeats 8000000 in
theorem foldDense_walk {W : World} {v : Value} {L : List Cm} (h0 : CmL W v L) (w0 : ∀ x ∈ L, CmOk x) :
    Calls Try.prog 10 #[v] W fun e W' => e = .returned (.bool true) ∧ Below W.heap.size W W' := by
  have HL := Lib.hid h0
  have HW := Lib.hid w0
  obtain ⟨ao, ac, rfl, hac, ham⟩ := h0.form
  clear h0 w0
  obtain ⟨j0, hj, hy0, hy1, hy2⟩ := info_parts Try.vecInfo
  have hmk : ∀ w : World, (Instr.makeSlice 27 (.int .i64 64) (.int .i64 64)).run Try.prog w = Result.ok (.slice (some ⟨w.heap.size, 0, none⟩) 64 64) (w.alloc (.cells (madeCells #[.int .u64 0] 64) 39)) := fun w => run_make_row (P := Try.prog) 27 39 j0 (.int .u64 0) Try.underlying27 hj hy0 hy1 rfl .i64 .i64 64 (by rw [hy2]; decide) (by decide) w
  clear hj hy0 hy1 hy2
  go_enter Try.func10, Try.ntmps10
  go_wp2_with fail
  refine (fawake_any W).mono ?_
  rintro e w1 ⟨rfl, hb1⟩
  have HB1 := Lib.hid hb1
  clear hb1
  go_wp2_with fail
  refine (fnew_w W w1 HB1.out).mono ?_
  rintro e w2 ⟨b0, rfl, hf2⟩
  have HF2 := Lib.hid (fg_start hf2)
  clear hf2
  go_wp2_with fail
  go_loopw [5] (fun i wr => ∃ (k : Nat) (F : FS), k ≤ L.length ∧ k ≤ 16 ∧ i = .int .i64 k ∧ (∃ M, Den F M) ∧ F.l.length ≤ 96 * k ∧ FoldG W (.pointer (some ⟨b0, 0, none⟩)) wr (10 * k) F (.slice none 0 0) (.slice none 0 0) [] []) (fun i _ => L.length - (intOf i).toNat)
  case atStart => exact ⟨0, _, by omega, by omega, rfl, ⟨_, Den.empty⟩, by simp [emptyFS], HF2.out⟩
  case round =>
    clear HF2 HB1
    obtain ⟨k, F, hk, hk16, rfl, hden, hFl, hG⟩ := hrel
    have HDen := Lib.hid hden
    have HFl := Lib.hid hFl
    have HG := Lib.hid hG
    clear hden hFl hG
    by_cases hlt : k < L.length ∧ k < 16
    · clear hmk
      obtain ⟨hlt, hlt16⟩ := hlt
      have hx := List.getElem?_eq_getElem hlt
      have HOk := Lib.hid (HW.out _ (List.getElem_mem hlt))
      obtain ⟨a, rv, rfl, hr0, hfar⟩ := HL.out.far k _ hx
      generalize L[k] = c at *
      have HR0 := Lib.hid hr0
      have HFar := Lib.hid hfar
      clear hr0 hfar hx
      obtain ⟨op, client, seq, shard, segs, pos, rs⟩ := c
      obtain ⟨z0, z1, z2, z3, z4, z5, z6⟩ := HFar.out _ HG.out.below
      try simp only at z0 z1 z2 z3 z4 z5 z6
      have hki : (k : Int) < (L.length : Int) := by omega
      have hki2 : (k : Int) < 16 := by omega
      go_wp2_with fail
      refine (short_any (c := ⟨op, client, seq, shard, segs, pos, rs⟩) (v := rv) (HR0.out.below HG.out.below (Nat.le_refl _))).mono ?_
      rintro e w4 ⟨rfl, hb4⟩
      have H4 := Lib.hid (HG.out.step hb4)
      clear hb4 z0 z1 z2 z3 z4 z5 z6
      try simp only
      cases hsh : shortB rs
      · go_wp2_with fail
        go_ret
        exact ⟨rfl, H4.out.below⟩
      · obtain ⟨hs1, hs2⟩ := short_iff hsh
        have HS2 := Lib.hid hs2
        have HS1 := Lib.hid hs1
        clear hs1 hs2 HG
        obtain ⟨z0, z1, z2, z3, z4, z5, z6⟩ := HFar.out _ H4.out.below
        try simp only at z0 z1 z2 z3 z4 z5 z6
        by_cases hop : op = 3
        · subst hop
          go_wp2_with fail
          go_ret
          exact ⟨rfl, H4.out.below⟩
        · have hopd : (op == 3) = false := by simpa using hop
          go_wp2_with fail
          refine (H4.out.apply (c := ⟨op, client, seq, shard, segs, pos, rs⟩) (v := rv) HR0.out (by have := HS1.out; simp only; omega) HOk.out (by have := HFl.out; omega) (by omega)).mono ?_
          rintro e w9 ⟨rfl, h9⟩
          have H9 := Lib.hid h9
          have hlen := applyF_len F ⟨op, client, seq, shard, segs, pos, rs⟩ HS2.out
          try simp only at hlen
          have HD9 : Hid (∃ M, Den (applyF F ⟨op, client, seq, shard, segs, pos, rs⟩) M) := Lib.hid (by obtain ⟨M, hM⟩ := HDen.out; exact hM.apply HOk.out.rows hop)
          have HLen := Lib.hid hlen
          clear hlen h9 z0 z1 z2 z3 z4 z5 z6 H4
          go_wp2_with fail
          go_roundw
          case rel => exact ⟨k + 1, _, by omega, by omega, by go_num, HD9.out, by have := HLen.out; have := HFl.out; have := HS1.out; omega, H9.out.more (by omega)⟩
          case measure => simp [intOf]; omega
    · have hdec : k = L.length ∨ (k = 16 ∧ (16 : Int) < (L.length : Int)) := by omega
      clear hlt
      obtain ⟨M, hM⟩ := HDen.out
      have HM := Lib.hid hM
      have HFW := Lib.hid (HG.out.one.mono (M := 1000) (by omega))
      obtain ⟨_, hnum1, _, HU0⟩ := HG.out.num
      have hn0 : 0 ≤ F.n := by have := hM.low; omega
      have HU := Lib.hid HU0
      clear HU0 HG hM HDen hnum1
      rcases hdec with rfl | ⟨rfl, hd2⟩
      all_goals
        go_wp2_with fail
        refine (HFW.out.len).mono ?_
        rintro e w4 ⟨rfl, rfl⟩
        by_cases hbig : 200 < F.n
        · go_wp2_with fail
          go_ret
          exact ⟨rfl, HFW.out.below⟩
        · have hbd : decide (200 < F.n) = false := decide_eq_false hbig
          have hn200 : F.n ≤ 200 := by omega
          have HN := Lib.hid hn200
          have HN0 := Lib.hid hn0
          clear hbig hn200 hn0
          have HMd := Lib.hid (HFW.out.made (n := 64) rfl)
          go_wp2_with fail
          generalize wr.heap.size = LB at *
          generalize wr.alloc (.cells (madeCells #[.int .u64 0] 64) 39) = w5 at *
          go_loopw [8] (fun i wr => ∃ p : Nat, (p : Int) ≤ F.n ∧ i = .int .u64 p ∧ FoldB W (.pointer (some ⟨b0, 0, none⟩)) wr 1000 F LB (lastA F p)) (fun i _ => F.n.toNat - (intOf i).toNat)
          case atStart => exact ⟨0, by have := HN0.out; simpa using this, rfl, by rw [show ((0 : Nat) : Int) = 0 from rfl, lastA_zero HM.out]; exact HMd.out⟩
          case round =>
            clear HMd
            obtain ⟨p, hp, rfl, hB⟩ := hrel
            have HB := Lib.hid hB
            clear hB
            go_wp2_with fail
            refine (HB.out.one.len).mono ?_
            rintro e w6 ⟨rfl, rfl⟩
            by_cases hpn : (p : Int) < F.n
            · obtain ⟨kx, x, hkx, hx1, hx2, hat⟩ := HM.out.span (p := p) (by omega) hpn
              obtain ⟨D6, hfo6⟩ := HB.out.fo
              have HFind := Lib.hid (HM.out.find hfo6 (p := p) (by omega) hpn HN.out hkx hx1 hx2)
              have HAt := Lib.hid hat
              have HPl : Hid (∀ w D, FoldO (.pointer (some ⟨b0, 0, none⟩)) D w 1000 F → Calls Try.prog 33 #[.pointer (some ⟨b0, 0, none⟩), .int .i64 x.shard, .int .i64 x.seg, .int .u64 (x.off + p - x.pos)] w fun e w' => e = .returned (.tuple #[.int .u64 p, .int .i64 0]) ∧ Below w.heap.size w w') :=
                Lib.hid (fun w D hf => HM.out.place hf (p := p) (by omega) hpn HN.out hkx hx1 hx2 HAt.out)
              obtain ⟨hid0, hid1⟩ := hat.id
              obtain ⟨g, hg1, hg4, _⟩ := hat.seg
              obtain ⟨hh, hhe⟩ : ∃ hh : Nat, x.shard = hh := ⟨x.shard.toNat, by omega⟩
              have hoff := hat.off
              rw [hhe, hg1] at hoff
              have hla := lastA_at F (p : Int) (h := hh) (g := g) (by omega) hg4
              rw [← hoff] at hla
              have hnx := lastA_next hat hhe hg1 (by omega) hg4
              have ho : 0 ≤ x.off + (p : Int) - x.pos ∧ x.off + (p : Int) - x.pos ≤ 200 := by
                obtain ⟨y, hy, e1, e2, e3, e4⟩ := posSp_mem 0 (HM.out.base.l ▸ List.mem_of_getElem? hkx)
                have := HM.out.small y hy
                have := HN.out
                omega
              rw [hhe, hg1] at HFind HPl
              generalize x.off + (p : Int) - x.pos = o at *
              obtain ⟨j, hjd⟩ : ∃ j, j = 8 * g + hh := ⟨_, rfl⟩
              rw [← hjd] at hla hnx
              have hji : 8 * (g : Int) + (hh : Int) = (j : Int) := by omega
              have hj64 : (j : Int) < 64 := by omega
              have hwp : IntKind.u64.wrap ((p : Int) + 1) = (p : Int) + 1 := IntWalk.u64_in _ (by have := HN.out; omega)
              have hj0 : (0 : Int) ≤ (j : Int) := by omega
              have t1 : decide ((hh : Int) < 0) = false := decide_eq_false (by omega)
              have t2 : decide (7 < (hh : Int)) = false := decide_eq_false (by omega)
              have t3 : decide ((g : Int) < 0) = false := decide_eq_false (by omega)
              have t4 : decide (3 < (g : Int)) = false := decide_eq_false (by omega)
              have t5 : ((p : Int) != (p : Int)) = false := by simp
              have t6 : (o != o) = false := by simp
              have HLa := Lib.hid hla
              have HNx := Lib.hid hnx
              clear hfo6 hat hkx hx1 hx2 hid0 hid1 hoff hla hnx hhe hg1 hjd hmk
              go_wp2_with fail
              refine HFind.out.mono ?_
              rintro e w6 ⟨rfl, hb6⟩
              have H6 := Lib.hid (HB.out.step hb6)
              clear hb6
              go_wp2_with fail
              obtain ⟨D7, hfo7⟩ := H6.out.fo
              refine (HPl.out _ _ hfo7).mono ?_
              rintro e w7 ⟨rfl, hb7⟩
              have H7 := Lib.hid (H6.out.step hb7)
              clear hb7 hfo7
              obtain ⟨c1, c2⟩ := H7.out.cell HLa.out
              go_wp2_with fail
              go_roundw
              case rel =>
                refine ⟨p + 1, by omega, by go_num, ?_⟩
                have := H7.out.set j (o + 1)
                rw [HNx.out] at this
                exact this
              case measure => simp [intOf]; omega
            · have hpe : (p : Int) = F.n := by omega
              have HTot : Hid (sumT (shL F) = F.n) := Lib.hid HM.out.total
              have HUt : Hid (∀ t ∈ shL F, U64 t.lens) := Lib.hid (fun t ht => by
                obtain ⟨a, _, ha⟩ := List.mem_filterMap.1 ht
                exact HU.out _ _ ha)
              have hS8 : (shL F).length ≤ 8 := by rw [shL_len]; exact shIds_len F
              have H5 := Lib.hid HB.out.one
              have hpd : decide ((p : Int) < F.n) = false := decide_eq_false hpn
              clear HB HU hmk HM HFW
              go_wp2_with fail
              refine (H5.out.shards (by omega)).mono ?_
              rintro e w6 ⟨ho6, hc6, vs6, rfl, hsep6, hb6⟩
              have HSn : Hid (ShL w6 (.slice ho6 (shL F).length hc6) (shL F)) := Lib.hid (ShL.of_own ((hsep6.get 0 rfl : (obShs (.slice ho6 (shL F).length hc6) 35 vs6 (shL F)).inv w6)).1 (hsep6.get 0 rfl : (obShs (.slice ho6 (shL F).length hc6) 35 vs6 (shL F)).inv w6).2.1)
              have hz6 : (shL F).length ≤ hc6 ∧ hc6 ≤ 9223372036854775807 := by
                obtain ⟨_, _, hh, h1, h2, _⟩ := HSn.out
                cases hh
                exact ⟨h1, h2⟩
              obtain ⟨hz61, hz62⟩ := hz6
              have H6 := Lib.hid (H5.out.step hb6)
              clear hsep6 hb6 H5
              generalize shL F = T at *
              go_wp2_with fail
              go_loopw [17, 16] (fun i s wr => ∃ j : Nat, j ≤ T.length ∧ i = .int .i64 j ∧ s = .int .u64 (sumT (T.take j)) ∧ Below w6.heap.size w6 wr) (fun i _ _ => T.length - (intOf i).toNat)
              case atStart => exact ⟨0, by omega, rfl, by simp [sumT, sumI], Below.refl _ _⟩
              case round =>
                obtain ⟨j, hj, rfl, rfl, hbj⟩ := hrel
                have HBj := Lib.hid hbj
                clear hbj
                by_cases hlt : j < T.length
                · have hx := List.getElem?_eq_getElem hlt
                  have HSc : Hid (∀ w', Below w6.heap.size w6 w' → ∃ a so sc, ho6 = some a ∧ w'.cell? (a.add (j * 4)) = some (.int .i64 T[j].id) ∧ w'.cell? ⟨(a.add (j * 4)).block, (a.add (j * 4)).off + 1, none⟩ = some (.int .i64 T[j].segs) ∧
                    w'.cell? ⟨(a.add (j * 4)).block, (a.add (j * 4)).off + 2, none⟩ = some (.slice so T[j].lens.length sc) ∧ w'.cell? ⟨(a.add (j * 4)).block, (a.add (j * 4)).off + 3, none⟩ = some (.bool T[j].fin) ∧ SlR w' (.slice so T[j].lens.length sc) (u64s T[j].lens) ∧ T[j].lens.length ≤ sc ∧ sc ≤ 9223372036854775807) := Lib.hid (fun w' hb => (ShL.below hb (Nat.le_refl _) HSn.out).at j _ hx)
                  have HSt := Lib.hid (sumT_take hx)
                  have HUq := Lib.hid (HUt.out _ (List.getElem_mem hlt))
                  have HLe : Hid (sumT (T.take (j + 1)) ≤ 200) := Lib.hid (by have := sumT_le HUt.out (j + 1); have := HTot.out; have := HN.out; omega)
                  have HPo : Hid (0 ≤ sumT (T.take j)) := Lib.hid (sumT_pos (fun t ht => HUt.out t (List.mem_of_mem_take ht)))
                  obtain ⟨S1, hS1⟩ : ∃ S1, S1 = sumT (T.take (j + 1)) := ⟨_, rfl⟩
                  rw [← hS1] at HSt HLe
                  have HS1e := Lib.hid hS1
                  clear hS1
                  generalize sumT (T.take j) = S0 at *
                  generalize T[j] = t at *
                  obtain ⟨tid, tseg, tl, tfin⟩ := t
                  have hji : (j : Int) < (T.length : Int) := by omega
                  clear hx
                  go_wp2_with fail
                  go_loopw [18, 16] (fun i s wr => ∃ q : Nat, q ≤ tl.length ∧ i = .int .i64 q ∧ s = .int .u64 (S0 + sumI (tl.take q)) ∧ Below w6.heap.size w6 wr) (fun i _ _ => tl.length - (intOf i).toNat)
                  case atStart => exact ⟨0, by omega, rfl, by simp [sumI], HBj.out⟩
                  case round =>
                    obtain ⟨q, hq, rfl, rfl, hbq⟩ := hrel
                    have HBq := Lib.hid hbq
                    clear hbq
                    obtain ⟨ya, yo, yc, rfl, y0, y1, y2, y3, ys, yl1, yl2⟩ := HSc.out _ HBq.out
                    try simp only at y0 y1 y2 y3 ys yl1 yl2
                    by_cases hlq : q < tl.length
                    · obtain ⟨yo', yc', hye, _, _, hyx⟩ := ys.ints
                      cases hye
                      obtain ⟨yb, rfl, hyc⟩ := hyx q hlq
                      have hs1 := sumI_take_succ tl q hlq
                      have hs2 := sumI_nonneg (tl.take q) (fun y hy => HUq.out y (List.mem_of_mem_take hy))
                      have hs3 := sumI_take_le tl HUq.out (q + 1)
                      have hs4 := HUq.out _ (List.getElem_mem hlq)
                      have hs5 : S0 + sumI (tl.take q) + tl[q] ≤ 200 ∧ 0 ≤ S0 + sumI (tl.take q) := by
                        have e1 := HLe.out; have e2 := HSt.out; have e3 := HPo.out
                        omega
                      obtain ⟨hs5, hs6⟩ := hs5
                      have HS1 : Hid (S0 + sumI (tl.take (q + 1)) = S0 + sumI (tl.take q) + tl[q]) := Lib.hid (by omega)
                      generalize S0 + sumI (tl.take q) = s at *
                      generalize tl[q] = z at *
                      have hqi : (q : Int) < (tl.length : Int) := by omega
                      clear hs1 hs2 hs3 hyx ys
                      go_wp2_with fail
                      go_roundw
                      case rel => exact ⟨q + 1, by omega, by go_num, by rw [HS1.out], HBq.out⟩
                      case measure => simp [intOf]; omega
                    · have hql : q = tl.length := by omega
                      subst hql
                      rw [List.take_length]
                      have HEq : Hid (S0 + sumI tl = S1) := Lib.hid (by rw [HSt.out])
                      generalize S0 + sumI tl = s at *
                      go_wp2_with fail
                      go_roundw
                      case rel => exact ⟨j + 1, by omega, by go_num, by rw [HEq.out, HS1e.out], HBq.out⟩
                      case measure => simp [intOf]; omega
                · have hjl : j = T.length := by omega
                  subst hjl
                  rw [List.take_length, HTot.out]
                  have H7 := Lib.hid (H6.out.step HBj.out)
                  go_wp2_with fail
                  refine (H7.out.len).mono ?_
                  rintro e w8 ⟨rfl, rfl⟩
                  go_wp2_with fail
                  go_ret
                  exact ⟨by simp, H7.out.below⟩
theorem foldDense_holds : Rows.FoldDenseSaid :=
  OpenClaim.holds_of_wide 10 Try.f10 rfl rfl rfl rfl rfl rfl rfl ⟨rfl, rfl, rfl, rfl, rfl⟩ rfl rfl rfl rfl rfl (by kernel_rfl) Try.func10 (by kernel_rfl)
    (of_decide_eq_true (by kernel_rfl)) (by unfold Func.isWrapper; rw [if_neg (by decide +kernel)]; exact ⟨rfl, rfl⟩)
    (fun os started H enc _ => law_frame (C := Try.checked) (fn := Try.f10) (s := Rows.foldDenseSpec) (tb := 4) Try.own started (by kernel_rfl) Try.func10 Try.laidOut rfl (by kernel_rfl) Try.underlying4 (by kernel_rfl)
      (fun ds hd => by match ds, hd with | [_], _ => exact ⟨rfl, rfl, rfl⟩)
      (ChangeSpec.witness6 (enc := enc) (C := Try.checked) false ⟨#[], #[.slice none 0 0], []⟩ 8 (by kernel_rfl) (by kernel_rfl) (by kernel_rfl) (by kernel_rfl))
      (fun W base args ds p hval0 hA0 _ => by
        have hval : ∀ (j : Nat) t v, Try.f10.params[j]? = some t → args[j]? = some v → Value.okWide Try.prog W .any base t v := hval0
        have hA : DataW.TrodAll enc Try.prog W 0 (fun _ => true) true Try.f10.params.toList args.toList ds p := hA0
        rw [Try.params10] at hA hval
        obtain ⟨v0, d0, rfl, rfl, h0⟩ := trodAll_one hA
        obtain ⟨x0, hx0, wx0⟩ := Try.cmds_open (hval 0 66 v0 rfl rfl) h0
        exact foldDense_walk hx0 wx0))

end Go.Proofs.Ytabanackdjlcmaa
