/-
  FoldGrows: of any commands: what has a position keeps it, whatever is applied then; a shard that is sealed has no more; the low end never sinks. No condition: every input.
-/
import Derived.Test.YtabanackdjlcmaaFGroQ
import Derived.Test.YtabanackdjlcmaaRegU
import Derived.Test.YtabanackdjlcmaaRefV
import Derived.Test.YtabanackdjlcmaaFrame
namespace Go.Proofs.Ytabanackdjlcmaa
open Go.ChangeShapes Go.WideShapes Go.ChangeAt Go.RowKit Go.Maps
set_option maxRecDepth 100000

set_option maxHeartbeats 8000000 in
theorem foldGrows_walk {W : World} {v : Value} {L : List Cm} {at0 : Int} (h0 : CmL W v L) (w0 : ∀ x ∈ L, CmOk x) (wa : (Lit.int .u8 at0).wf = true) :
    Calls Try.prog 11 #[v, .int .u8 at0] W fun e W' => e = .returned (.bool true) ∧ Below W.heap.size W W' := by
  have HL := Lib.hid h0
  have HW := Lib.hid w0
  have ha0 : 0 ≤ at0 ∧ at0 ≤ 255 := by simpa [Lit.wf, IntKind.min, IntKind.max, IntKind.signed, IntKind.bits] using wa
  obtain ⟨ao, ac, rfl, hac, ham⟩ := h0.form
  have htm : at0.tmod 16 = at0 % 16 := by rw [Int.tmod_eq_emod_of_nonneg ha0.1]
  obtain ⟨kk, hkk⟩ : ∃ kk : Nat, at0 % 16 = (kk : Int) := ⟨(at0 % 16).toNat, by omega⟩
  have hk16 : kk < 16 := by omega
  rw [hkk] at htm
  clear h0 w0 wa hkk
  go_enter Try.func11, Try.ntmps11
  go_wp2_with fail
  refine (fawake_any W).mono ?_
  rintro e w1 ⟨rfl, hb1⟩
  have HB1 := Lib.hid hb1
  clear hb1
  go_wp2_with fail
  refine (fnew_w W w1 HB1.out).mono ?_
  rintro e w2 ⟨b0, rfl, hf2⟩
  have HF2 := Lib.hid (fg_start hf2)
  clear hf2
  go_wp2_with fail
  go_loopw [11, 8, 9, 10] (fun i v1 v2 lv wr => ∃ (k : Nat) (F : FS) (B : List Sp) (H : List Sh) (lo : Int), k ≤ L.length ∧ k ≤ 24 ∧ i = .int .i64 k ∧ lv = .int .u64 lo ∧ Kept B H lo F ∧ F.l.length ≤ 96 * k ∧ FoldG W (.pointer (some ⟨b0, 0, none⟩)) wr (10 * k) F v1 v2 B H) (fun i _ _ _ _ => L.length - (intOf i).toNat)
  case atStart => exact ⟨0, _, _, _, 0, by omega, by omega, rfl, rfl, Kept.zero HF2.out.num.1, by simp [emptyFS], HF2.out⟩
  case round =>
    clear HF2 HB1
    obtain ⟨k, F, B, H, lo, hk, hk24, rfl, rfl, hkept, hFl, hG⟩ := hrel
    obtain ⟨⟨a1, c1, rfl, hB1, hB2⟩, a2, c2, rfl, hH1, hH2⟩ := hG.form
    have HKp := Lib.hid hkept
    have HFl := Lib.hid hFl
    have HG := Lib.hid hG
    clear hkept hFl hG
    by_cases hlt : k < L.length ∧ k < 24
    · obtain ⟨hlt, hlt24⟩ := hlt
      have hx := List.getElem?_eq_getElem hlt
      have HOk := Lib.hid (HW.out _ (List.getElem_mem hlt))
      obtain ⟨a, rv, rfl, hr0, hfar⟩ := HL.out.far k _ hx
      generalize L[k] = c at *
      have HR0 := Lib.hid hr0
      have HFar := Lib.hid hfar
      clear hr0 hfar hx
      obtain ⟨op, client, seq, shard, segs, pos, rs⟩ := c
      obtain ⟨z0, z1, z2, z3, z4, z5, z6⟩ := HFar.out _ HG.out.below
      try simp only at z0 z1 z2 z3 z4 z5 z6
      have hki : (k : Int) < (L.length : Int) := by omega
      have hki2 : (k : Int) < 24 := by omega
      go_wp2_with fail
      refine (short_any (c := ⟨op, client, seq, shard, segs, pos, rs⟩) (v := rv) (HR0.out.below HG.out.below (Nat.le_refl _))).mono ?_
      rintro e w4 ⟨rfl, hb4⟩
      have H4 := Lib.hid (HG.out.step hb4)
      clear hb4 z0 z1 z2 z3 z4 z5 z6
      try simp only
      cases hsh : shortB rs
      · go_wp2_with fail
        go_ret
        exact ⟨rfl, H4.out.below⟩
      · obtain ⟨hs1, hs2⟩ := short_iff hsh
        have HS2 := Lib.hid hs2
        have HS1 := Lib.hid hs1
        clear hs1 hs2 HG
        by_cases hkk : k = kk
        · subst hkk
          go_wp2_with fail
          refine (H4.out.one.spans (by have := HFl.out; omega)).mono ?_
          rintro e w5 ⟨v1', rfl, hown5, hb5⟩
          have H5 := Lib.hid (H4.out.spans hown5 hb5)
          obtain ⟨a1', c1', rfl, hB1', hB2'⟩ := own_form hown5
          clear hown5 hb5
          go_wp2_with fail
          refine (H5.out.one.shards (by omega)).mono ?_
          rintro e w6 ⟨ho6, hc6, vs6, rfl, hsep6, hb6⟩
          have H6 := Lib.hid (H5.out.shards hsep6 hb6)
          clear hsep6 hb6
          go_wp2_with fail
          refine (H6.out.one.low).mono ?_
          rintro e w7 ⟨rfl, rfl⟩
          have HKq := Lib.hid (Kept.now (F := F) H6.out.num.2.2.1)
          clear HKp H4 H5
          go_wp2_with fail
          refine (H6.out.one.len).mono ?_
          rintro e w8 ⟨rfl, rfl⟩
          obtain ⟨z0, z1, z2, z3, z4, z5, z6⟩ := HFar.out _ H6.out.below
          try simp only at z0 z1 z2 z3 z4 z5 z6
          go_wp2_with fail
          refine (H6.out.apply (c := ⟨op, client, seq, shard, segs, pos, rs⟩) (v := rv) HR0.out (by have := HS1.out; simp only; omega) HOk.out (by have := HFl.out; omega) (by omega)).mono ?_
          rintro e w9 ⟨rfl, h9⟩
          have H9 := Lib.hid h9
          clear h9 z0 z1 z2 z3 z4 z5 z6
          have hlen := applyF_len F ⟨op, client, seq, shard, segs, pos, rs⟩ HS2.out
          have hgr := applyF_grow F ⟨op, client, seq, shard, segs, pos, rs⟩
          have hno := applyF_no (F := F) (c := ⟨op, client, seq, shard, segs, pos, rs⟩)
          try simp only at hlen
          have HK9 := Lib.hid (HKq.out.grow hgr)
          have hge : decide ((applyF F ⟨op, client, seq, shard, segs, pos, rs⟩).n < F.n) = false := decide_eq_false (by have := hgr.n; omega)
          have HLen := Lib.hid hlen
          have HNo := Lib.hid hno
          clear hlen hgr hno HKq H6
          generalize applyF F ⟨op, client, seq, shard, segs, pos, rs⟩ = G at *
          generalize applyE F ⟨op, client, seq, shard, segs, pos, rs⟩ = x at *
          go_wp2_with fail
          refine (H9.out.one.len).mono ?_
          rintro e w10 ⟨rfl, rfl⟩
          by_cases he : x = 0
          · subst he
            go_wp2_with fail
            go_roundw
            case rel => exact ⟨k + 1, _, _, _, _, by omega, by omega, by go_num, rfl, HK9.out, by have := HLen.out; have := HFl.out; have := HS1.out; omega, H9.out.more (by omega)⟩
            case measure => simp [intOf]; omega
          · have hxb : (x != 0) = true := by simpa using he
            have hnn : (G.n != F.n) = false := by have := HNo.out he; simp [this]
            go_wp2_with fail
            refine (H9.out.one.len).mono ?_
            rintro e w11 ⟨rfl, rfl⟩
            go_wp2_with fail
            go_roundw
            case rel => exact ⟨k + 1, _, _, _, _, by omega, by omega, by go_num, rfl, HK9.out, by have := HLen.out; have := HFl.out; have := HS1.out; omega, H9.out.more (by omega)⟩
            case measure => simp [intOf]; omega
        · have hkd : ((k : Int) == (kk : Int)) = false := by simp; omega
          have H6 := Lib.hid H4.out
          have HKq := Lib.hid HKp.out
          clear HKp H4
          go_wp2_with fail
          refine (H6.out.one.len).mono ?_
          rintro e w8 ⟨rfl, rfl⟩
          obtain ⟨z0, z1, z2, z3, z4, z5, z6⟩ := HFar.out _ H6.out.below
          try simp only at z0 z1 z2 z3 z4 z5 z6
          go_wp2_with fail
          refine (H6.out.apply (c := ⟨op, client, seq, shard, segs, pos, rs⟩) (v := rv) HR0.out (by have := HS1.out; simp only; omega) HOk.out (by have := HFl.out; omega) (by omega)).mono ?_
          rintro e w9 ⟨rfl, h9⟩
          have H9 := Lib.hid h9
          clear h9 z0 z1 z2 z3 z4 z5 z6
          have hlen := applyF_len F ⟨op, client, seq, shard, segs, pos, rs⟩ HS2.out
          have hgr := applyF_grow F ⟨op, client, seq, shard, segs, pos, rs⟩
          have hno := applyF_no (F := F) (c := ⟨op, client, seq, shard, segs, pos, rs⟩)
          try simp only at hlen
          have HK9 := Lib.hid (HKq.out.grow hgr)
          have hge : decide ((applyF F ⟨op, client, seq, shard, segs, pos, rs⟩).n < F.n) = false := decide_eq_false (by have := hgr.n; omega)
          have HLen := Lib.hid hlen
          have HNo := Lib.hid hno
          clear hlen hgr hno HKq H6
          generalize applyF F ⟨op, client, seq, shard, segs, pos, rs⟩ = G at *
          generalize applyE F ⟨op, client, seq, shard, segs, pos, rs⟩ = x at *
          go_wp2_with fail
          refine (H9.out.one.len).mono ?_
          rintro e w10 ⟨rfl, rfl⟩
          by_cases he : x = 0
          · subst he
            go_wp2_with fail
            go_roundw
            case rel => exact ⟨k + 1, _, _, _, _, by omega, by omega, by go_num, rfl, HK9.out, by have := HLen.out; have := HFl.out; have := HS1.out; omega, H9.out.more (by omega)⟩
            case measure => simp [intOf]; omega
          · have hxb : (x != 0) = true := by simpa using he
            have hnn : (G.n != F.n) = false := by have := HNo.out he; simp [this]
            go_wp2_with fail
            refine (H9.out.one.len).mono ?_
            rintro e w11 ⟨rfl, rfl⟩
            go_wp2_with fail
            go_roundw
            case rel => exact ⟨k + 1, _, _, _, _, by omega, by omega, by go_num, rfl, HK9.out, by have := HLen.out; have := HFl.out; have := HS1.out; omega, H9.out.more (by omega)⟩
            case measure => simp [intOf]; omega
    · obtain ⟨q0, q1, q2, q3⟩ := HG.out.num
      have HIds := Lib.hid q2
      have HU := Lib.hid q3
      have hdec : k = L.length ∨ (k = 24 ∧ (24 : Int) < (L.length : Int)) := by omega
      clear hlt q2 q3
      have hlB : B.length ≤ F.l.length := HKp.out.l.length_le
      have d1 : decide ((F.l.length : Int) < (B.length : Int)) = false := decide_eq_false (by omega)
      have d2 : decide (F.low < lo) = false := decide_eq_false (by have := HKp.out.low; omega)
      have d3 : decide (F.n < F.low) = false := decide_eq_false (by omega)
      have hFl2 : F.l.length ≤ 100000 := by have := HFl.out; omega
      have HFq := Lib.hid hFl2
      have HG2 := Lib.hid (HG.out.more (N' := 1000) (by omega))
      clear hFl2 HG HFl
      rcases hdec with rfl | ⟨rfl, hd2⟩
      all_goals
        go_wp2_with fail
        refine (HG2.out.one.spans (by have := HFq.out; omega)).mono ?_
        rintro e w4 ⟨v3, rfl, hown3, hb4⟩
        have H4 := Lib.hid (HG2.out.step hb4)
        obtain ⟨a3, c3, rfl, hc31, hc32⟩ := own_form hown3
        have HO3 := Lib.hid (SpL.of_own hown3)
        clear hb4 hown3 HG2
        go_wp2_with fail
        refine (H4.out.one.low).mono ?_
        rintro e w5 ⟨rfl, rfl⟩
        go_wp2_with fail
        refine (H4.out.one.low).mono ?_
        rintro e w5 ⟨rfl, rfl⟩
        go_wp2_with fail
        refine (H4.out.one.len).mono ?_
        rintro e w5 ⟨rfl, rfl⟩
        go_wp2_with fail
        go_loopw [16] (fun i wr => ∃ j : Nat, j ≤ B.length ∧ i = .int .i64 j ∧ Below w4.heap.size w4 wr) (fun i _ => B.length - (intOf i).toNat)
        case atStart => exact ⟨0, by omega, rfl, Below.refl _ _⟩
        case round =>
          obtain ⟨j, hj, rfl, hbj⟩ := hrel
          have HBj := Lib.hid hbj
          clear hbj
          by_cases hlt : j < B.length
          · have hx := List.getElem?_eq_getElem hlt
            have hx3 : F.l[j]? = some B[j] := by
              obtain ⟨t, ht⟩ := HKp.out.l
              rw [← ht, List.getElem?_append_left hlt]; exact hx
            obtain ⟨za, rfl, z0, z1, z2, z3, z4⟩ := (SpL.below HBj.out (Nat.le_refl _) HO3.out).at j _ hx3
            obtain ⟨ya, rfl, y0, y1, y2, y3, y4⟩ := (SpL.below HBj.out (Nat.le_refl _) H4.out.sp).at j _ hx
            generalize B[j] = x at *
            obtain ⟨xp, xsh, xsg, xof, xmn⟩ := x
            have hne := neqSq ⟨xp, xsh, xsg, xof, xmn⟩
            have hEG : Try.prog.eqGuardType Try.prog.depth 60 = false := by kernel_rfl
            simp only [spV] at hne
            simp only at z0 z1 z2 z3 z4 y0 y1 y2 y3 y4
            have hji : (j : Int) < (B.length : Int) := by omega
            have hji3 : (j : Int) < (F.l.length : Int) := by omega
            clear hx hx3
            go_wp2_with fail
            go_quiet (fail)
            go_wp2_with fail
            go_roundw
            case rel => exact ⟨j + 1, by omega, by go_num, below_drewN HBj.out _⟩
            case measure => simp [intOf]; omega
          · have hjl : j = B.length := by omega
            subst hjl
            have H5 := Lib.hid (H4.out.step HBj.out)
            clear H4 HBj HO3 hlt hj
            go_wp2_with fail
            refine (H5.out.one.shards (by omega)).mono ?_
            rintro e w6 ⟨ho6, hc6, vs6, rfl, hsep6, hb6⟩
            have HSn : Hid (ShL w6 (.slice ho6 (shL F).length hc6) (shL F)) := Lib.hid (ShL.of_own ((hsep6.get 0 rfl : (obShs (.slice ho6 (shL F).length hc6) 35 vs6 (shL F)).inv w6)).1 (hsep6.get 0 rfl : (obShs (.slice ho6 (shL F).length hc6) 35 vs6 (shL F)).inv w6).2.1)
            have hz6 : (shL F).length ≤ hc6 ∧ hc6 ≤ 9223372036854775807 := by
              obtain ⟨_, _, hh, h1, h2, _⟩ := HSn.out
              cases hh
              exact ⟨h1, h2⟩
            obtain ⟨hz61, hz62⟩ := hz6
            have H6 := Lib.hid (H5.out.step hb6)
            clear hsep6 hb6 H5
            have HSame := Lib.hid (fun s hs t ht he => HKp.out.same HIds.out (s := s) (t := t) hs ht he)
            have HFound := Lib.hid (fun s hs => HKp.out.found HIds.out (s := s) hs)
            have HUt : Hid (∀ t ∈ shL F, U64 t.lens) := Lib.hid (fun t ht => HU.out _ _ (shL_mem HIds.out ht).2)
            have hS8 : (shL F).length ≤ 8 := by rw [shL_len]; exact shIds_len F
            clear HKp HIds HU
            generalize shL F = T at *
            go_wp2_with fail
            go_loopw [18] (fun i wr => ∃ j : Nat, j ≤ H.length ∧ i = .int .i64 j ∧ Below w6.heap.size w6 wr) (fun i _ => H.length - (intOf i).toNat)
            case atStart => exact ⟨0, by omega, rfl, Below.refl _ _⟩
            case round =>
              obtain ⟨j, hj, rfl, hbj⟩ := hrel
              have HBj := Lib.hid hbj
              clear hbj
              by_cases hlt : j < H.length
              · have hx := List.getElem?_eq_getElem hlt
                have hmem := List.getElem_mem hlt
                have HSm := Lib.hid (HSame.out (H[j]'hlt) hmem)
                have HFd := Lib.hid (HFound.out H[j] hmem)
                have HSc : Hid (∀ w', Below w6.heap.size w6 w' → ∃ a so sc, a2 = some a ∧ w'.cell? (a.add (j * 4)) = some (.int .i64 H[j].id) ∧ w'.cell? ⟨(a.add (j * 4)).block, (a.add (j * 4)).off + 1, none⟩ = some (.int .i64 H[j].segs) ∧
                  w'.cell? ⟨(a.add (j * 4)).block, (a.add (j * 4)).off + 2, none⟩ = some (.slice so H[j].lens.length sc) ∧ w'.cell? ⟨(a.add (j * 4)).block, (a.add (j * 4)).off + 3, none⟩ = some (.bool H[j].fin) ∧ SlR w' (.slice so H[j].lens.length sc) (u64s H[j].lens) ∧ H[j].lens.length ≤ sc ∧ sc ≤ 9223372036854775807) := Lib.hid (fun w' hb => (ShL.below hb (Nat.le_refl _) H6.out.sh).at j _ hx)
                generalize H[j] = s at *
                obtain ⟨sid, sseg, slen, sfin⟩ := s
                have hji : (j : Int) < (H.length : Int) := by omega
                clear hx hmem
                go_wp2_with fail
                go_loopw [20, 19] (fun i f wr => ∃ q : Nat, q ≤ T.length ∧ i = .int .i64 q ∧ f = .bool ((T.take q).any fun t => t.id == sid) ∧ Below w6.heap.size w6 wr) (fun i _ _ => T.length - (intOf i).toNat)
                case atStart => exact ⟨0, by omega, rfl, by simp, HBj.out⟩
                case round =>
                  obtain ⟨q, hq, rfl, rfl, hbq⟩ := hrel
                  have HBq := Lib.hid hbq
                  clear hbq
                  by_cases hlq : q < T.length
                  · have hx := List.getElem?_eq_getElem hlq
                    obtain ⟨za, zo, zc, rfl, z0, z1, z2, z3, zs, zl1, zl2⟩ := (ShL.below HBq.out (Nat.le_refl _) HSn.out).at q _ hx
                    obtain ⟨ya, yo, yc, rfl, y0, y1, y2, y3, ys, yl1, yl2⟩ := HSc.out _ HBq.out
                    have hT : (T.take (q + 1)).any (fun t => t.id == sid) = ((T.take q).any (fun t => t.id == sid) || (T[q].id == sid)) := by
                      rw [List.take_succ_eq_append_getElem hlq, List.any_append]; simp
                    have HT := Lib.hid hT
                    have HUq := Lib.hid (HUt.out _ (List.getElem_mem hlq))
                    have HSq := Lib.hid (HSm.out _ (List.getElem_mem hlq))
                    clear hT hx
                    generalize T[q] = t at *
                    generalize (T.take q).any (fun t => t.id == sid) = fb at *
                    obtain ⟨tid, tseg, tlen, tfin⟩ := t
                    try simp only at z0 z1 z2 z3 zs zl1 zl2 y0 y1 y2 y3 ys yl1 yl2
                    have HZ := Lib.hid zs
                    have HY := Lib.hid ys
                    clear zs ys
                    have hqi : (q : Int) < (T.length : Int) := by omega
                    by_cases hid : tid = sid
                    · subst hid
                      obtain ⟨e1, e2, e3⟩ := HSq.out rfl
                      try simp only at e1 e2 e3
                      subst e1
                      have HE3 := Lib.hid e3
                      have HLe := Lib.hid e2
                      clear e2 e3
                      have hTT : Hid ((T.take (q + 1)).any (fun t => t.id == tid) = true) := Lib.hid (by rw [HT.out]; simp)
                      go_wp2_with fail
                      go_quiet (fail)
                      go_wp2_with fail
                      go_quiet ((go_at_call 34; exact quiet_drew2 (rsame_any (HZ.out.drewN _) (HY.out.drewN _))))
                      go_wp2_with fail
                      go_quiet ((go_at_call 35; exact quiet_drew2 (rle_any (HY.out.drewN _) (HZ.out.drewN _) HUq.out)))
                      rw [HLe.out]
                      have hsg : ((tseg : Int) != (tseg : Int)) = false := by simp
                      cases sfin
                      · go_wp2_with fail
                        go_quiet (fail)
                        go_wp2_with fail
                        go_roundw
                        case rel => exact ⟨q + 1, by omega, by go_num, by rw [hTT.out], below_drewN HBq.out _⟩
                        case measure => simp [intOf]; omega
                      · obtain ⟨e4, e5⟩ := HE3.out rfl
                        subst e4
                        rw [e5]
                        clear e5
                        go_wp2_with fail
                        go_quiet (fail)
                        go_wp2_with fail
                        go_roundw
                        case rel => exact ⟨q + 1, by omega, by go_num, by rw [hTT.out], below_drewN HBq.out _⟩
                        case measure => simp [intOf]; omega
                    · have hdn : (tid != sid) = true := by simpa using hid
                      have hTT : Hid ((T.take (q + 1)).any (fun t => t.id == sid) = fb) := Lib.hid (by rw [HT.out]; simp [hid])
                      go_wp2_with fail
                      go_quiet (fail)
                      go_wp2_with fail
                      go_roundw
                      case rel => exact ⟨q + 1, by omega, by go_num, by rw [hTT.out], below_drewN HBq.out _⟩
                      case measure => simp [intOf]; omega
                  · have hql : q = T.length := by omega
                    have hany : (T.take q).any (fun t => t.id == sid) = true := by
                      rw [hql, List.take_length, List.any_eq_true]
                      obtain ⟨t, h1, h2⟩ := HFd.out
                      exact ⟨t, h1, by simpa using h2⟩
                    rw [hany]
                    clear hany
                    go_wp2_with fail
                    go_roundw
                    case rel => exact ⟨j + 1, by omega, by go_num, HBq.out⟩
                    case measure => simp [intOf]; omega
              · have hjl : j = H.length := by omega
                subst hjl
                go_wp2_with fail
                go_ret
                exact ⟨rfl, H6.out.below.trans (HBj.out.mono H6.out.below.size)⟩
theorem foldGrows_holds : Rows.FoldGrowsSaid :=
  OpenClaim.holds_of_wide 11 Try.f11 rfl rfl rfl rfl rfl rfl rfl ⟨rfl, rfl, rfl, rfl, rfl⟩ rfl rfl rfl rfl rfl (by kernel_rfl) Try.func11 (by kernel_rfl)
    (of_decide_eq_true (by kernel_rfl)) (by unfold Func.isWrapper; rw [if_neg (by decide +kernel)]; exact ⟨rfl, rfl⟩)
    (fun os started H enc _ => law_frame (C := Try.checked) (fn := Try.f11) (s := Rows.foldGrowsSpec) (tb := 4) Try.own started (by kernel_rfl) Try.func11 Try.laidOut rfl (by kernel_rfl) Try.underlying4 (by kernel_rfl)
      (fun ds hd => by match ds, hd with | [_, _], _ => exact ⟨rfl, rfl, rfl⟩)
      (ChangeSpec.witness6 (enc := enc) (C := Try.checked) false ⟨#[], #[.slice none 0 0, .int .u8 0], []⟩ 8 (by kernel_rfl) (by kernel_rfl) (by kernel_rfl) (by kernel_rfl))
      (fun W base args ds p hval0 hA0 _ => by
        have hval : ∀ (j : Nat) t v, Try.f11.params[j]? = some t → args[j]? = some v → Value.okWide Try.prog W .any base t v := hval0
        have hA : DataW.TrodAll enc Try.prog W 0 (fun _ => true) true Try.f11.params.toList args.toList ds p := hA0
        rw [Try.params11] at hA hval
        obtain ⟨v0, v1, d0, d1, p0, p1, rfl, rfl, rfl, h0, h1⟩ := trodAll_two hA
        obtain ⟨x0, hx0, wx0⟩ := Try.cmds_open (hval 0 66 v0 rfl rfl) h0
        obtain ⟨x1, rfl, rfl, rfl, wx1⟩ := open_int Try.underlying5 (hval 1 5 v1 rfl rfl) h1
        exact foldGrows_walk hx0 wx0 wx1))

end Go.Proofs.Ytabanackdjlcmaa
