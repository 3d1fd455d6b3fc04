/-
  LeaderSlots: no slot is proposed twice under one ballot; a value is chosen once, by a majority, as it was proposed. No conditions.
-/
import Derived.Test.YtjdjfhioobhcjaaSlotsP
namespace Go.Proofs.Ytjdjfhioobhcjaa
open Go.ChangeShapes Go.WideShapes Go.ChangeAt Go.RowKit Go.Maps
set_option maxRecDepth 100000

set_option maxHeartbeats 16000000 in
theorem leaderSlots_walk {x0 : Int} {v1 v2 : Value} {ys : List (List Int)} {zs : List Int} {W : World} (w0 : (Lit.int .u8 x0).wf = true) (h1 : RowsK W .u8 v1 ys) (w1 : ∀ r ∈ ys, ∀ x ∈ r, (Lit.int .u8 x).wf = true) (h2 : SlR W v2 (u8s zs)) (w2 : ∀ x ∈ zs, (Lit.int .u8 x).wf = true) :
    Calls Try.prog 8 #[.int .u8 x0, v1, v2] W fun e W' => e = .returned (.bool true) ∧ Below W.heap.size W W' := by
  simp [Lit.wf, IntKind.min, IntKind.max, IntKind.signed, IntKind.bits] at w0
  have hy8 : ∀ r ∈ ys, U8 r := fun r hr => u8_of_wf (w1 r hr)
  have hz8 := u8_of_wf w2
  have HY := Lib.hid hy8
  have HZ := Lib.hid hz8
  have H2 := Lib.hid h2
  obtain ⟨zo, zc, rfl, hzc, hzm⟩ := h2.form
  obtain ⟨yo, yc, rfl, hyc, hym, hyx⟩ := h1.row
  simp only [List.length_map] at H2 hzc ⊢
  have HX := Lib.hid hyx
  obtain ⟨j0, hj, hy0, hy1, hy2⟩ := info_parts Try.boolInfo
  obtain ⟨k0, hk, hq0, hq1, hq2⟩ := info_parts Try.byteInfo
  obtain ⟨m, hm⟩ : ∃ m : Nat, x0 % 5 = (m : Int) := ⟨(x0 % 5).toNat, by omega⟩
  have hm5 : m < 5 := by omega
  have hmt : x0.tmod 5 = (m : Int) := by rw [Int.tmod_eq_emod_of_nonneg (by omega)]; exact hm
  have hmw : IntKind.u8.wrap (m : Int) = (m : Int) := IntWalk.u8_in _ (by omega)
  have hmi : IntKind.i64.wrap (m : Int) = (m : Int) := IntWalk.i64_in _ (by omega)
  obtain ⟨n, hn⟩ : ∃ n : Nat, (m : Int) + 1 = (n : Int) := ⟨m + 1, by omega⟩
  have hn5 : n ≤ 5 := by omega
  have hn1 : 1 ≤ n := by omega
  have hnw : IntKind.i64.wrap (n : Int) = (n : Int) := IntWalk.i64_in _ (by omega)
  clear h1 w1 h2 w2 hy8 hz8 hyx w0
  go_enter Try.func8, Try.ntmps8
  go_wp2_with fail
  refine (lawake_any W).mono ?_
  rintro e w1 ⟨rfl, hb1⟩
  have HB1 := Lib.hid hb1
  clear hb1
  by_cases hyl : ys.length ≤ 20
  rotate_left
  · have hli : (20 : Int) < (ys.length : Int) := by omega
    go_wp2_with fail
    go_ret
    exact ⟨rfl, HB1.out⟩
  have hyd : decide ((20 : Int) < (ys.length : Int)) = false := decide_eq_false (by omega)
  by_cases hzl : zs.length ≤ 100
  rotate_left
  · have hli : (100 : Int) < (zs.length : Int) := by omega
    go_wp2_with fail
    go_ret
    exact ⟨rfl, HB1.out⟩
  have hzd : decide ((100 : Int) < (zs.length : Int)) = false := decide_eq_false (by omega)
  go_wp2_with fail
  refine ((SepW.nil HB1.out).leaNew (many := (n : Int)) (by omega)).mono ?_
  rintro e w1 ⟨b0, D, rfl, hs1⟩
  have HS1 := Lib.hid hs1
  clear hs1 HB1
  go_wp2_with fail
  refine (HS1.out.leaBegin 0 rfl (b := 7) (fr := 3) (by show (0 : Int) < 7; decide) (by constructor <;> decide) (by constructor <;> decide)).mono ?_
  rintro e w2 ⟨rfl, D2, hs2⟩
  have HS2 : Hid (SepW W w2 [obLea (.pointer (some ⟨b0, 0, none⟩)) D2 0 (beginL (newLS n) 7 3)]) := Lib.hid hs2
  clear hs2 HS1 hmt hm hmw hmi
  go_wp2_with fail
  go_loopw [11] (fun i wr => ∃ (k : Nat) (D : Nat → Prop) (N : Nat) (A : LS), k ≤ n ∧ i = .int .i64 k ∧ SepW W wr [obLea (.pointer (some ⟨b0, 0, none⟩)) D N A] ∧ StA n k N A) (fun i _ => n - (intOf i).toNat)
  case atStart => exact ⟨0, D2, 0, _, by omega, rfl, HS2.out, StA.start n⟩
  case round =>
    clear HS2
    obtain ⟨k, D, N, A, hk1, rfl, hsep, hst⟩ := hrel
    have HSk := Lib.hid hsep
    have HSt := Lib.hid hst
    clear hsep hst
    by_cases hlt : k < n
    · have hki : (k : Int) < (n : Int) := by omega
      by_cases hs : A.stage = 1
      · have hyes : A.stage = 1 ∧ 7 = A.ballot ∧ 0 ≤ (k : Int) ∧ (k : Int) < A.many := ⟨hs, HSt.out.ballot.symm, by omega, by rw [HSt.out.many]; omega⟩
        have hpk : A.prom k = false := by
          rcases HSt.out.at_ with ⟨_, _, h3⟩ | ⟨h1, _⟩
          · rw [h3]; unfold ltK; simp
          · omega
        have hN0 := HSt.out.small.2 hs
        have HP := Lib.hid (HSk.out.leaProm 0 rfl (low := 0) (v := .slice none 0 0) (hs := []) hyes hpk (by constructor <;> decide) (fun w' _ => VtL.nil w') (by intro v hv; cases hv) (by simp; omega))
        have HSg := Lib.hid hs
        clear hyes hpk hN0 hs
        go_wp2_with fail
        refine HP.out.mono ?_
        rintro e w3 (⟨hm, rfl, D3, hs3⟩ | ⟨_, hf, _⟩ | ⟨hm, _, en, D3, ks, ao, c, vs, hen, hks, rfl, hs3⟩)
        · have HA := Lib.hid (HSt.out.few HSg.out hlt hn5 hm)
          have HS3 := Lib.hid hs3
          clear hm hs3
          go_wp2_with fail
          go_roundw
          case rel => exact ⟨k + 1, D3, _, _, by omega, by go_num, HS3.out, HA.out⟩
          case measure => simp [intOf]; omega
        · exact absurd hf HSt.out.near
        · obtain rfl : en = 3 := hen.unique HSt.out.end_
          have HA := Lib.hid (HSt.out.leads HSg.out hlt hn5 hm)
          have HS3 := Lib.hid (hs3.sub (List.sublist_cons_self _ _))
          clear hm hs3 hks hen
          go_wp2_with fail
          go_roundw
          case rel => exact ⟨k + 1, D3, _, _, by omega, by go_num, HS3.out, HA.out⟩
          case measure => simp [intOf]; omega
      · have hs2 : A.stage = 2 := by
          rcases HSt.out.at_ with ⟨h1, _⟩ | ⟨h1, _⟩
          · exact absurd h1 hs
          · exact h1
        have HP := Lib.hid (HSk.out.leaPromNo 0 rfl (node := (k : Int)) (b := 7) (low := 0) (v := .slice none 0 0) (fun h => hs h.1))
        have HA := Lib.hid (HSt.out.stays hs2)
        clear hs hs2
        go_wp2_with fail
        refine HP.out.mono ?_
        rintro e w3 ⟨rfl, rfl⟩
        go_wp2_with fail
        go_roundw
        case rel => exact ⟨k + 1, D, _, _, by omega, by go_num, HSk.out, HA.out⟩
        case measure => simp [intOf]; omega
    · have hkn : k = n := by omega
      subst hkn
      have hkd : decide ((k : Int) < (k : Int)) = false := decide_eq_false (by omega)
      have HV0 := Lib.hid (SvA.start HSt.out hn1 ys)
      clear hlt hk1 HSt
      go_wp2_with fail
      go_loopw [12, 13, 14] (fun i _ _ wr => ∃ (q : Nat) (D : Nat → Prop) (N : Nat) (A : LS), q ≤ ys.length ∧ i = .int .i64 q ∧ SepW W wr [obLea (.pointer (some ⟨b0, 0, none⟩)) D N A] ∧ SvA k ys q (fun _ => false) (fun _ _ => false) N q A ∧ ∀ (j : Nat) r, j < q → ys[j]? = some r → r.length ≤ 40) (fun i _ _ _ => ys.length - (intOf i).toNat)
      case atStart => exact ⟨0, D, N, A, by omega, rfl, HSk.out, HV0.out, fun j r hj => by omega⟩
      case round =>
        clear HSk HV0
        obtain ⟨q, D, N, A, hq, rfl, hsep, hst, h40⟩ := hrel
        have HSq := Lib.hid hsep
        have HV := Lib.hid hst
        have H40 := Lib.hid h40
        clear hsep hst h40
        by_cases hlt : q < ys.length
        · have hqi : (q : Int) < (ys.length : Int) := by omega
          have hr : ys[q]? = some ys[q] := List.getElem?_eq_getElem hlt
          obtain ⟨ya, u, rfl, hyc0, hsl⟩ := HX.out q hlt
          generalize ys[q] = r at *
          obtain ⟨ro, rc, rfl, hr1, hr2⟩ := hsl.form
          simp only [List.length_map] at hyc0 hsl hr1
          have HC : Hid (∀ w' : World, Below W.heap.size W w' → w'.cell? (ya.add q) = some (.slice ro r.length rc)) := Lib.hid fun w' hb => (hb.cell (World.block_lt_of_cell? _ _ hyc0)).trans hyc0
          have e1 := HC.out wr HSq.out.below
          have HSl := Lib.hid hsl
          have HR := Lib.hid hr
          clear hr hyc0 hsl
          by_cases hr40 : r.length ≤ 40
          · have hrd : decide ((40 : Int) < (r.length : Int)) = false := decide_eq_false (by omega)
            have HVp := Lib.hid (HV.out.proposed HR.out)
            have hNs := HV.out.small
            have HP := Lib.hid (HSq.out.leaPropose 0 rfl (HSl.out.below HSq.out.below (Nat.le_refl _)) (HY.out r (List.mem_of_getElem? HR.out)) (by omega) HV.out.stage (by rw [HV.out.next]; omega) (by omega))
            have hnx : A.next = 3 + (q : Int) := HV.out.next
            have hbl : A.ballot = 7 := HV.out.ballot
            rw [hnx, hbl] at HP HVp
            clear hnx hbl
            go_wp2_with fail
            refine HP.out.mono ?_
            rintro e w3 ⟨po, pc, D3, rfl, hs3⟩
            have HS3 := Lib.hid (hs3.newBlk #[.int .u64 (3 + (q : Int)), .int .u64 7, .slice po r.length pc] 39)
            clear hs3
            obtain ⟨y0, _⟩ := HS3.out.blk 0 rfl 0 _ rfl
            obtain ⟨y1, _⟩ := HS3.out.blk 0 rfl 1 _ rfl
            obtain ⟨y2, _⟩ := HS3.out.blk 0 rfl 2 _ rfl
            have e3 := HC.out _ HS3.out.below
            have hcv1 : ∀ d, (convert 30 9 (.slice po r.length pc)).run Try.prog (World.drewN _ d) = .ok (.string (strB r)) _ := fun d => run_strB Try.underlying30 Try.underlying5 Try.underlying9 ((HS3.out.row 1 rfl).drewN d)
            have hcv2 : ∀ d, (convert 30 9 (.slice ro r.length rc)).run Try.prog (World.drewN _ d) = .ok (.string (strB r)) _ := fun d => run_strB Try.underlying30 Try.underlying5 Try.underlying9 ((HSl.out.below HS3.out.below (Nat.le_refl _)).drewN d)
            have hwq : IntKind.u64.wrap (q : Int) = (q : Int) := IntWalk.u64_in _ (by omega)
            have hwq2 : IntKind.u64.wrap ((q : Int) + 3) = 3 + (q : Int) := by rw [Int.add_comm]; exact IntWalk.u64_in _ (by omega)
            have hq3 : (q : Int) + 3 = 3 + (q : Int) := by omega
            have hqq : ((3 + (q : Int)) != (3 + (q : Int))) = false := by simp
            have HS4 := Lib.hid (HS3.out.sub (List.sublist_append_of_sublist_right (l₁ := [_, _]) (List.Sublist.refl _)) : SepW W _ [obLea (.pointer (some ⟨b0, 0, none⟩)) D3 (N + 1) _])
            go_wp2_with fail
            go_quiet (fail)
            go_wp2_with fail
            go_roundw
            case rel => exact ⟨q + 1, D3, N + 1, _, by omega, by go_num, by first | exact HS4.out.drewN _ | exact HS4.out.drew, HVp.out, fun j r' hj hr' => by
              by_cases e : j = q
              · subst e; rw [HR.out] at hr'; cases hr'; exact hr40
              · exact H40.out j r' (by omega) hr'⟩
            case measure => simp [intOf]; omega
          · have hrd : (40 : Int) < (r.length : Int) := by omega
            go_wp2_with fail
            go_ret
            exact ⟨rfl, HSq.out.below⟩
        · have hqn : q = ys.length := by omega
          subst hqn
          have hqd : decide ((ys.length : Int) < (ys.length : Int)) = false := decide_eq_false (by omega)
          clear hlt hq
          obtain ⟨L, hL⟩ : ∃ L, L = ys.length := ⟨_, rfl⟩
          have hmk1 : ∀ w : World, (Instr.makeSlice 30 (.int .i64 (ys.length : Int)) (.int .i64 (ys.length : Int))).run Try.prog w = Result.ok (.slice (some ⟨w.heap.size, 0, none⟩) ys.length ys.length) (w.alloc (.cells (madeCells #[.int .u8 0] ys.length) 5)) := fun w => run_make_row (P := Try.prog) 30 5 k0 (.int .u8 0) Try.underlying30 hk hq0 hq1 rfl .i64 .i64 ys.length (by rw [hq2]; omega) (by omega) w
          have hmk2 : ∀ w : World, (Instr.makeSlice 28 (.int .i64 (ys.length : Int)) (.int .i64 (ys.length : Int))).run Try.prog w = Result.ok (.slice (some ⟨w.heap.size, 0, none⟩) ys.length ys.length) (w.alloc (.cells (madeCells #[.bool false] ys.length) 4)) := fun w => run_make_row (P := Try.prog) 28 4 j0 (.bool false) Try.underlying28 hj hy0 hy1 rfl .i64 .i64 ys.length (by rw [hy2]; omega) (by omega) w
          have hsA := (HSq.out.arrMade (.int .u8 0) 5 ys.length)
          have hsB := (hsA.arrMade (.bool false) 4 ys.length)
          have hz1 : (wr.alloc (.cells (madeCells #[.int .u8 0] ys.length) 5)).heap.size = wr.heap.size + 1 := by simp
          rw [hz1] at hsB
          have HSA : Hid (SepW W _ [obArr (wr.heap.size + 1) ys.length 4 (fun i => .bool ((fun _ => false : Nat → Bool) i)), obArr wr.heap.size ys.length 5 (fun i => .int .u8 (msk 8 ((fun _ _ => false : Nat → Nat → Bool) i) : Nat)), obLea (.pointer (some ⟨b0, 0, none⟩)) D N A]) := Lib.hid (by
            have e : obArr wr.heap.size ys.length 5 (fun i => .int .u8 (msk 8 ((fun _ _ => false : Nat → Nat → Bool) i) : Nat)) = obArr wr.heap.size ys.length 5 (fun _ => .int .u8 0) := obArr_congr fun i _ => by simp only [msk_none]; rfl
            rw [e]; exact hsB)
          clear hsA hsB hL hz1 HSq
          go_wp2_with fail
          clear hmk1 hmk2
          generalize wr.heap.size = LB at *
          go_loopw [17, 18, 19, 20, 21, 22, 23] (fun vi _ _ _ _ _ _ wr => ∃ (q : Nat) (D : Nat → Prop) (N : Nat) (A : LS) (Dn : Nat → Bool) (G : Nat → Nat → Bool), q ≤ zs.length ∧ vi = .int .i64 q ∧ SepW W wr [obArr (LB + 1) ys.length 4 (fun i => .bool (Dn i)), obArr LB ys.length 5 (fun i => .int .u8 (msk 8 (G i) : Nat)), obLea (.pointer (some ⟨b0, 0, none⟩)) D N A] ∧ SvA k ys ys.length Dn G N (ys.length + q) A) (fun vi _ _ _ _ _ _ _ => zs.length - (intOf vi).toNat)
          case atStart => exact ⟨0, D, N, A, fun _ => false, fun _ _ => false, by omega, rfl, HSA.out, HV.out⟩
          case round =>
            clear HSA HV
            obtain ⟨q, D, N, A, Dn, G, hq, rfl, hsep, hst⟩ := hrel
            have HSq := Lib.hid hsep
            have HV := Lib.hid hst
            clear hsep hst
            by_cases hin : q < zs.length ∧ 0 < ys.length
            · obtain ⟨hlt, hL⟩ := hin
              have hqi : (q : Int) < (zs.length : Int) := by omega
              have hLi : (0 : Int) < (ys.length : Int) := by omega
              obtain ⟨z, hz⟩ : ∃ z, zs[q]? = some z := ⟨_, List.getElem?_eq_getElem hlt⟩
              obtain ⟨zo', zc', hze, _, _, hzx⟩ := (H2.out.below HSq.out.below (Nat.le_refl _))
              simp only [List.length_map] at hze
              cases hze
              obtain ⟨za, rfl, hzm2⟩ := hzx q (.int .u8 z) (by rw [List.getElem?_map, hz]; rfl)
              obtain ⟨hz0, hz1⟩ := HZ.out z (List.mem_of_getElem? hz)
              clear hz hzx
              obtain ⟨kk, hkk⟩ : ∃ kk : Nat, z / 8 % (ys.length : Int) = (kk : Int) := ⟨(z / 8 % (ys.length : Int)).toNat, by have := Int.emod_nonneg (z / 8) (by omega : (ys.length : Int) ≠ 0); omega⟩
              have hkkl : kk < ys.length := by have := Int.emod_lt_of_pos (z / 8) hLi; omega
              obtain ⟨nd, hnd⟩ : ∃ nd : Nat, z % 8 % (k : Int) = (nd : Int) := ⟨(z % 8 % (k : Int)).toNat, by have := Int.emod_nonneg (z % 8) (by omega : (k : Int) ≠ 0); omega⟩
              have hndk : nd < k := by have := Int.emod_lt_of_pos (z % 8) (by omega : (0 : Int) < (k : Int)); omega
              have hwk1 : IntKind.u64.wrap (kk : Int) = (kk : Int) := IntWalk.u64_in _ (by omega)
              have hwk2 : IntKind.u64.wrap ((kk : Int) + 3) = 3 + (kk : Int) := by rw [Int.add_comm]; exact IntWalk.u64_in _ (by omega)
              have hk3 : (kk : Int) + 3 = 3 + (kk : Int) := by omega
              have hkki : (kk : Int) < (ys.length : Int) := by omega
              have hkk0 : (0 : Int) ≤ (kk : Int) := by omega
              have hr : ys[kk]? = some ys[kk] := List.getElem?_eq_getElem hkkl
              obtain ⟨ya, u, rfl, hyc0, hsl⟩ := HX.out kk hkkl
              generalize ys[kk] = r at *
              obtain ⟨ro, rc, rfl, hr1, hr2⟩ := hsl.form
              simp only [List.length_map] at hyc0 hsl hr1
              have HC : Hid (∀ w' : World, Below W.heap.size W w' → w'.cell? (ya.add kk) = some (.slice ro r.length rc)) := Lib.hid fun w' hb => (hb.cell (World.block_lt_of_cell? _ _ hyc0)).trans hyc0
              have HSl := Lib.hid hsl
              have HR := Lib.hid hr
              clear hr hyc0 hsl
              have hyes : A.stage = 2 ∧ 7 = A.ballot ∧ 0 ≤ (nd : Int) ∧ (nd : Int) < A.many := ⟨HV.out.stage, HV.out.ballot.symm, by omega, by rw [HV.out.many]; omega⟩
              have hu1 : U1 (3 + (kk : Int)) := ⟨by omega, by omega⟩
              have hNs := HV.out.small
              cases hd : Dn kk
              · have HAc := Lib.hid (HSq.out.leaAcc 2 rfl (n := nd) (b := 7) (s := 3 + (kk : Int)) hyes hu1 (HV.out.at_ hkkl HR.out hd) (by omega))
                have HD := Lib.hid hd
                clear hyes hu1 hd
                go_wp2_with fail
                refine HAc.out.mono ?_
                have hgk : A.many / 2 < cnt 32 (addK (G kk) nd) ↔ (k : Int) / 2 < cnt 32 (addK (G kk) nd) := by rw [HV.out.many]
                rintro e w3 (⟨hm, po, pc, D3, rfl, hs3⟩ | ⟨hm, rfl, D3, hs3⟩)
                · have HM := Lib.hid (hgk.1 hm)
                  have HV2 := Lib.hid (HV.out.chosen hkkl hndk)
                  have HS3 : Hid (SepW W _ [obBlk w3.heap.size (.cells #[.int .u64 (3 + (kk : Int)), .int .u64 7, .slice po r.length pc] 39), obRow (.slice po r.length pc) 5 1 r.length (u8s r), obArr (LB + 1) ys.length 4 (fun i => .bool (Dn i)), obArr LB ys.length 5 (fun i => .int .u8 (msk 8 (G i) : Nat)), obLea (.pointer (some ⟨b0, 0, none⟩)) D3 (N + 1) (opD A (3 + (kk : Int)))]) := Lib.hid (SepW.newBlk hs3 #[.int .u64 (3 + (kk : Int)), .int .u64 7, .slice po r.length pc] 39)
                  clear hm hs3 hgk HAc
                  obtain ⟨f1, f2⟩ := HS3.out.arrCell 2 rfl hkkl
                  obtain ⟨g1, g2⟩ := HS3.out.arrCell 3 rfl hkkl
                  rw [HD.out] at f1
                  have hor := or_msk8 (f := G kk) (n := nd) (by omega)
                  have e1 : obArr LB ys.length 5 (fun i => if i = kk then .int .u8 (msk 8 (addK (G kk) nd) : Nat) else .int .u8 (msk 8 (G i) : Nat)) = obArr LB ys.length 5 (fun i => .int .u8 (msk 8 (setB G kk (addK (G kk) nd) i) : Nat)) := obArr_congr fun i _ => by
                    unfold setB
                    by_cases h : i = kk
                    · rw [if_pos h, if_pos h]
                    · rw [if_neg h, if_neg h]
                  have hs4 := HS3.out.arrSet 3 rfl hkkl (.int .u8 (msk 8 (addK (G kk) nd) : Nat))
                  rw [e1] at hs4
                  have HS4 : Hid (SepW W _ [obBlk w3.heap.size (.cells #[.int .u64 (3 + (kk : Int)), .int .u64 7, .slice po r.length pc] 39), obRow (.slice po r.length pc) 5 1 r.length (u8s r), obArr (LB + 1) ys.length 4 (fun i => .bool (Dn i)), obArr LB ys.length 5 (fun i => .int .u8 (msk 8 (setB G kk (addK (G kk) nd) i) : Nat)), obLea (.pointer (some ⟨b0, 0, none⟩)) D3 (N + 1) (opD A (3 + (kk : Int)))]) := Lib.hid hs4
                  have HGs : Hid (setB G kk (addK (G kk) nd) kk = addK (G kk) nd) := Lib.hid (by unfold setB; rw [if_pos rfl])
                  have HWho := Lib.hid (fun j (hj : addK (G kk) nd j = true) => HV2.out.who kk j (by rw [HGs.out]; exact hj))
                  clear e1 hs4 HS3
                  go_wp2_with fail
                  clear hor f1 f2 g1 g2
                  obtain ⟨gk, hgk⟩ : ∃ gk, gk = addK (G kk) nd := ⟨_, rfl⟩
                  rw [← hgk] at HWho HGs HM HV2 HS4 ⊢
                  obtain ⟨G2, hG2⟩ : ∃ G2, G2 = setB G kk gk := ⟨_, rfl⟩
                  rw [← hG2] at HGs HV2 HS4
                  clear hgk hG2
                  go_loopw [22, 23] (fun vc vj wr => ∃ j : Nat, j ≤ k ∧ vc = .int .i64 (cnt j gk : Nat) ∧ vj = .int .i64 j ∧ SepW W wr [obBlk w3.heap.size (.cells #[.int .u64 (3 + (kk : Int)), .int .u64 7, .slice po r.length pc] 39), obRow (.slice po r.length pc) 5 1 r.length (u8s r), obArr (LB + 1) ys.length 4 (fun i => .bool (Dn i)), obArr LB ys.length 5 (fun i => .int .u8 (msk 8 (G2 i) : Nat)), obLea (.pointer (some ⟨b0, 0, none⟩)) D3 (N + 1) (opD A (3 + (kk : Int)))]) (fun _ vj _ => k - (intOf vj).toNat)
                  case atStart => exact ⟨0, by omega, rfl, rfl, HS4.out⟩
                  case round =>
                    clear HS4
                    obtain ⟨j, hjk, rfl, rfl, hsep⟩ := hrel
                    have HSj := Lib.hid hsep
                    clear hsep
                    by_cases hjl : j < k
                    · have hji : (j : Int) < (k : Int) := by omega
                      obtain ⟨g1, g2⟩ := HSj.out.arrCell 3 rfl hkkl
                      rw [HGs.out] at g1
                      have hand := bit_of8 (f := gk) (n := j) (by omega)
                      have hcj := cnt_le j gk
                      have hcs : cnt (j + 1) gk = cnt j gk + if gk j then 1 else 0 := rfl
                      have HCs := Lib.hid hcs
                      have hwj : IntKind.u64.wrap (j : Int) = (j : Int) := IntWalk.u64_in _ (by omega)
                      have hwc : IntKind.i64.wrap (((cnt j gk : Nat) : Int) + 1) = ((cnt j gk : Nat) : Int) + 1 := IntWalk.i64_in _ (by omega)
                      have hwd : IntKind.i64.wrap ((cnt j gk : Nat) : Int) = ((cnt j gk : Nat) : Int) := IntWalk.i64_in _ (by omega)
                      clear hcs
                      cases hgj : gk j
                      · rw [hgj] at hand
                        simp only [Bool.false_eq_true, if_false] at hand
                        have HCe : Hid (((cnt (j + 1) gk : Nat) : Int) = ((cnt j gk : Nat) : Int)) := Lib.hid (by rw [HCs.out, hgj]; rfl)
                        clear hgj
                        go_wp2_with fail
                        go_roundw
                        case rel => exact ⟨j + 1, by omega, by rw [HCe.out], by first | rfl | go_num, HSj.out⟩
                        case measure => simp [intOf]; omega
                      · rw [hgj] at hand
                        simp only [if_true] at hand
                        have HCe : Hid (((cnt (j + 1) gk : Nat) : Int) = ((cnt j gk : Nat) : Int) + 1) := Lib.hid (by rw [HCs.out, hgj]; rfl)
                        clear hgj
                        go_wp2_with fail
                        go_roundw
                        case rel => exact ⟨j + 1, by omega, by rw [HCe.out], by first | rfl | go_num, HSj.out⟩
                        case measure => simp [intOf]; omega
                    · have hjk2 : j = k := by omega
                      have hjd : decide ((j : Int) < (k : Int)) = false := decide_eq_false (by omega)
                      have hjn : decide (j < k) = false := decide_eq_false hjl
                      have hck : cnt 32 gk = cnt j gk := by rw [hjk2]; exact cnt_short HWho.out (by omega)
                      have hcd : decide ((k : Int) / 2 < ((cnt j gk : Nat) : Int)) = true := decide_eq_true (by have := HM.out; rw [hck] at this; omega)
                      have hn2 : IntKind.i64.wrap ((k : Int).tdiv 2) = (k : Int) / 2 := by rw [Int.tdiv_eq_ediv_of_nonneg (by omega)]; exact IntWalk.i64_in _ (by constructor <;> omega)
                      clear hck hjk2 hjl
                      generalize cnt j gk = cj at *
                      obtain ⟨y0, _⟩ := HSj.out.blk 0 rfl 0 _ rfl
                      obtain ⟨y2, _⟩ := HSj.out.blk 0 rfl 2 _ rfl
                      have e3 := HC.out wr HSj.out.below
                      have hcv1 : ∀ d, (convert 30 9 (.slice po r.length pc)).run Try.prog (World.drewN wr d) = .ok (.string (strB r)) (World.drewN wr d) := fun d => run_strB Try.underlying30 Try.underlying5 Try.underlying9 ((HSj.out.row 1 rfl).drewN d)
                      have hcv2 : ∀ d, (convert 30 9 (.slice ro r.length rc)).run Try.prog (World.drewN wr d) = .ok (.string (strB r)) (World.drewN wr d) := fun d => run_strB Try.underlying30 Try.underlying5 Try.underlying9 ((HSl.out.below HSj.out.below (Nat.le_refl _)).drewN d)
                      have e2 : obArr (LB + 1) ys.length 4 (fun i => if i = kk then .bool true else .bool (Dn i)) = obArr (LB + 1) ys.length 4 (fun i => .bool (setB Dn kk true i)) := obArr_congr fun i _ => by
                        unfold setB
                        by_cases h : i = kk
                        · rw [if_pos h, if_pos h]
                        · rw [if_neg h, if_neg h]
                      obtain ⟨f1, f2⟩ := HSj.out.arrCell 2 rfl hkkl
                      have HF := Lib.hid e2
                      clear e2
                      go_wp2_with fail
                      go_quiet (fail)
                      have hsd := (HSj.out.drewN nq).arrSet 2 rfl hkkl (.bool true)
                      have HSd : Hid (SepW W _ [obBlk w3.heap.size (.cells #[.int .u64 (3 + (kk : Int)), .int .u64 7, .slice po r.length pc] 39), obRow (.slice po r.length pc) 5 1 r.length (u8s r), obArr (LB + 1) ys.length 4 (fun i => .bool (setB Dn kk true i)), obArr LB ys.length 5 (fun i => .int .u8 (msk 8 (G2 i) : Nat)), obLea (.pointer (some ⟨b0, 0, none⟩)) D3 (N + 1) (opD A (3 + (kk : Int)))]) := Lib.hid (HF.out ▸ hsd)
                      have HSe := Lib.hid (HSd.out.sub (List.sublist_append_right [obBlk w3.heap.size (.cells #[.int .u64 (3 + (kk : Int)), .int .u64 7, .slice po r.length pc] 39), obRow (.slice po r.length pc) 5 1 r.length (u8s r)] [obArr (LB + 1) ys.length 4 (fun i => .bool (setB Dn kk true i)), obArr LB ys.length 5 (fun i => .int .u8 (msk 8 (G2 i) : Nat)), obLea (.pointer (some ⟨b0, 0, none⟩)) D3 (N + 1) (opD A (3 + (kk : Int)))]))
                      clear hsd HSd
                      go_wp2_with fail
                      go_roundw
                      case rel => exact ⟨q + 1, D3, N + 1, (opD A (3 + (kk : Int))), setB Dn kk true, G2, by omega, by first | rfl | go_num, HSe.out, by have := HV2.out; rwa [Nat.add_assoc] at this⟩
                      case measure => simp [intOf]; omega
                · have HM := Lib.hid (fun h => hm (hgk.2 h))
                  have HV2 := Lib.hid (HV.out.voted hkkl hndk HR.out HD.out)
                  have HS3 : Hid (SepW W _ [obBlk w3.heap.size (.cells #[.int .u64 0, .int .u64 0, .slice none 0 0] 39), obArr (LB + 1) ys.length 4 (fun i => .bool (Dn i)), obArr LB ys.length 5 (fun i => .int .u8 (msk 8 (G i) : Nat)), obLea (.pointer (some ⟨b0, 0, none⟩)) D3 (N + 1) (opP A ⟨3 + (kk : Int), 7, r⟩ (addK (G kk) nd))]) := Lib.hid (SepW.newBlk hs3 #[.int .u64 0, .int .u64 0, .slice none 0 0] 39)
                  clear hm hs3 hgk HAc
                  obtain ⟨f1, f2⟩ := HS3.out.arrCell 1 rfl hkkl
                  obtain ⟨g1, g2⟩ := HS3.out.arrCell 2 rfl hkkl
                  rw [HD.out] at f1
                  have hor := or_msk8 (f := G kk) (n := nd) (by omega)
                  have e1 : obArr LB ys.length 5 (fun i => if i = kk then .int .u8 (msk 8 (addK (G kk) nd) : Nat) else .int .u8 (msk 8 (G i) : Nat)) = obArr LB ys.length 5 (fun i => .int .u8 (msk 8 (setB G kk (addK (G kk) nd) i) : Nat)) := obArr_congr fun i _ => by
                    unfold setB
                    by_cases h : i = kk
                    · rw [if_pos h, if_pos h]
                    · rw [if_neg h, if_neg h]
                  have hs4 := HS3.out.arrSet 2 rfl hkkl (.int .u8 (msk 8 (addK (G kk) nd) : Nat))
                  rw [e1] at hs4
                  have HS4 : Hid (SepW W _ [obBlk w3.heap.size (.cells #[.int .u64 0, .int .u64 0, .slice none 0 0] 39), obArr (LB + 1) ys.length 4 (fun i => .bool (Dn i)), obArr LB ys.length 5 (fun i => .int .u8 (msk 8 (setB G kk (addK (G kk) nd) i) : Nat)), obLea (.pointer (some ⟨b0, 0, none⟩)) D3 (N + 1) (opP A ⟨3 + (kk : Int), 7, r⟩ (addK (G kk) nd))]) := Lib.hid hs4
                  have HGs : Hid (setB G kk (addK (G kk) nd) kk = addK (G kk) nd) := Lib.hid (by unfold setB; rw [if_pos rfl])
                  have HWho := Lib.hid (fun j (hj : addK (G kk) nd j = true) => HV2.out.who kk j (by rw [HGs.out]; exact hj))
                  clear e1 hs4 HS3
                  go_wp2_with fail
                  clear hor f1 f2 g1 g2
                  obtain ⟨gk, hgk⟩ : ∃ gk, gk = addK (G kk) nd := ⟨_, rfl⟩
                  rw [← hgk] at HWho HGs HM HV2 HS4 ⊢
                  obtain ⟨G2, hG2⟩ : ∃ G2, G2 = setB G kk gk := ⟨_, rfl⟩
                  rw [← hG2] at HGs HV2 HS4
                  clear hgk hG2
                  go_loopw [22, 23] (fun vc vj wr => ∃ j : Nat, j ≤ k ∧ vc = .int .i64 (cnt j gk : Nat) ∧ vj = .int .i64 j ∧ SepW W wr [obBlk w3.heap.size (.cells #[.int .u64 0, .int .u64 0, .slice none 0 0] 39), obArr (LB + 1) ys.length 4 (fun i => .bool (Dn i)), obArr LB ys.length 5 (fun i => .int .u8 (msk 8 (G2 i) : Nat)), obLea (.pointer (some ⟨b0, 0, none⟩)) D3 (N + 1) (opP A ⟨3 + (kk : Int), 7, r⟩ gk)]) (fun _ vj _ => k - (intOf vj).toNat)
                  case atStart => exact ⟨0, by omega, rfl, rfl, HS4.out⟩
                  case round =>
                    clear HS4
                    obtain ⟨j, hjk, rfl, rfl, hsep⟩ := hrel
                    have HSj := Lib.hid hsep
                    clear hsep
                    by_cases hjl : j < k
                    · have hji : (j : Int) < (k : Int) := by omega
                      obtain ⟨g1, g2⟩ := HSj.out.arrCell 2 rfl hkkl
                      rw [HGs.out] at g1
                      have hand := bit_of8 (f := gk) (n := j) (by omega)
                      have hcj := cnt_le j gk
                      have hcs : cnt (j + 1) gk = cnt j gk + if gk j then 1 else 0 := rfl
                      have HCs := Lib.hid hcs
                      have hwj : IntKind.u64.wrap (j : Int) = (j : Int) := IntWalk.u64_in _ (by omega)
                      have hwc : IntKind.i64.wrap (((cnt j gk : Nat) : Int) + 1) = ((cnt j gk : Nat) : Int) + 1 := IntWalk.i64_in _ (by omega)
                      have hwd : IntKind.i64.wrap ((cnt j gk : Nat) : Int) = ((cnt j gk : Nat) : Int) := IntWalk.i64_in _ (by omega)
                      clear hcs
                      cases hgj : gk j
                      · rw [hgj] at hand
                        simp only [Bool.false_eq_true, if_false] at hand
                        have HCe : Hid (((cnt (j + 1) gk : Nat) : Int) = ((cnt j gk : Nat) : Int)) := Lib.hid (by rw [HCs.out, hgj]; rfl)
                        clear hgj
                        go_wp2_with fail
                        go_roundw
                        case rel => exact ⟨j + 1, by omega, by rw [HCe.out], by first | rfl | go_num, HSj.out⟩
                        case measure => simp [intOf]; omega
                      · rw [hgj] at hand
                        simp only [if_true] at hand
                        have HCe : Hid (((cnt (j + 1) gk : Nat) : Int) = ((cnt j gk : Nat) : Int) + 1) := Lib.hid (by rw [HCs.out, hgj]; rfl)
                        clear hgj
                        go_wp2_with fail
                        go_roundw
                        case rel => exact ⟨j + 1, by omega, by rw [HCe.out], by first | rfl | go_num, HSj.out⟩
                        case measure => simp [intOf]; omega
                    · have hjk2 : j = k := by omega
                      have hjd : decide ((j : Int) < (k : Int)) = false := decide_eq_false (by omega)
                      have hjn : decide (j < k) = false := decide_eq_false hjl
                      have hck : cnt 32 gk = cnt j gk := by rw [hjk2]; exact cnt_short HWho.out (by omega)
                      have hcd : decide ((k : Int) / 2 < ((cnt j gk : Nat) : Int)) = false := decide_eq_false (by have := HM.out; rw [hck] at this; omega)
                      have hn2 : IntKind.i64.wrap ((k : Int).tdiv 2) = (k : Int) / 2 := by rw [Int.tdiv_eq_ediv_of_nonneg (by omega)]; exact IntWalk.i64_in _ (by constructor <;> omega)
                      clear hck hjk2 hjl
                      generalize cnt j gk = cj at *
                      have e2 : obArr (LB + 1) ys.length 4 (fun i => if i = kk then .bool false else .bool (Dn i)) = obArr (LB + 1) ys.length 4 (fun i => .bool (setB Dn kk false i)) := obArr_congr fun i _ => by
                        unfold setB
                        by_cases h : i = kk
                        · rw [if_pos h, if_pos h]
                        · rw [if_neg h, if_neg h]
                      obtain ⟨f1, f2⟩ := HSj.out.arrCell 1 rfl hkkl
                      have HF := Lib.hid e2
                      clear e2
                      go_wp2_with fail
                      go_quiet (fail)
                      have hsd := (HSj.out.drewN nq).arrSet 1 rfl hkkl (.bool false)
                      have HSd : Hid (SepW W _ [obBlk w3.heap.size (.cells #[.int .u64 0, .int .u64 0, .slice none 0 0] 39), obArr (LB + 1) ys.length 4 (fun i => .bool (setB Dn kk false i)), obArr LB ys.length 5 (fun i => .int .u8 (msk 8 (G2 i) : Nat)), obLea (.pointer (some ⟨b0, 0, none⟩)) D3 (N + 1) (opP A ⟨3 + (kk : Int), 7, r⟩ gk)]) := Lib.hid (HF.out ▸ hsd)
                      have HSe := Lib.hid (HSd.out.sub (List.sublist_append_right [obBlk w3.heap.size (.cells #[.int .u64 0, .int .u64 0, .slice none 0 0] 39)] [obArr (LB + 1) ys.length 4 (fun i => .bool (setB Dn kk false i)), obArr LB ys.length 5 (fun i => .int .u8 (msk 8 (G2 i) : Nat)), obLea (.pointer (some ⟨b0, 0, none⟩)) D3 (N + 1) (opP A ⟨3 + (kk : Int), 7, r⟩ gk)]))
                      clear hsd HSd
                      go_wp2_with fail
                      go_roundw
                      case rel => exact ⟨q + 1, D3, N + 1, (opP A ⟨3 + (kk : Int), 7, r⟩ gk), setB Dn kk false, G2, by omega, by first | rfl | go_num, HSe.out, by have := HV2.out; rwa [Nat.add_assoc] at this⟩
                      case measure => simp [intOf]; omega
              · have HAc := Lib.hid (HSq.out.leaAccNone 2 rfl (node := (nd : Int)) (b := 7) (s := 3 + (kk : Int)) hyes hu1 (HV.out.gone hkkl hd))
                clear hyes hu1
                go_wp2_with fail
                refine HAc.out.mono ?_
                rintro e w3 ⟨rfl, hs3⟩
                have HS3 := Lib.hid (hs3.step (below_lit w3 (.cells #[.int .u64 0, .int .u64 0, .slice none 0 0] 39)))
                obtain ⟨f1, _⟩ := HS3.out.arrCell 0 rfl hkkl
                rw [hd] at f1
                have HVm := Lib.hid HV.out.more
                clear hs3 HAc hd
                go_wp2_with fail
                go_roundw
                case rel => exact ⟨q + 1, D, N, A, Dn, G, by omega, by go_num, HS3.out, HVm.out⟩
                case measure => simp [intOf]; omega
            · have hNs := HV.out.small
              by_cases h1 : q < zs.length
              · have h1i : (q : Int) < (zs.length : Int) := by omega
                have hL0 : ¬ 0 < ys.length := fun h => hin ⟨h1, h⟩
                have hLd : decide ((0 : Int) < (ys.length : Int)) = false := decide_eq_false (by omega)
                have hLe : decide (0 < ys.length) = false := decide_eq_false hL0
                clear hin
                go_wp2_with fail
                go_loopw [24, 25] (fun vo vk wr => ∃ j : Nat, j ≤ ys.length ∧ vo = .int .i64 (leftN Dn j : Nat) ∧ vk = .int .i64 j ∧ SepW W wr [obArr (LB + 1) ys.length 4 (fun i => .bool (Dn i)), obArr LB ys.length 5 (fun i => .int .u8 (msk 8 (G i) : Nat)), obLea (.pointer (some ⟨b0, 0, none⟩)) D N A]) (fun _ vk _ => ys.length - (intOf vk).toNat)
                case atStart => exact ⟨0, by omega, rfl, rfl, HSq.out⟩
                case round =>
                  clear HSq
                  obtain ⟨j, hj, rfl, rfl, hsep⟩ := hrel
                  have HSj := Lib.hid hsep
                  clear hsep
                  by_cases hjl : j < ys.length
                  · have hji : (j : Int) < (ys.length : Int) := by omega
                    obtain ⟨f1, f2⟩ := HSj.out.arrCell 0 rfl hjl
                    have hlj := leftN_le Dn j
                    have hls := leftN_succ Dn j
                    have HLs := Lib.hid hls
                    have hwl : IntKind.i64.wrap (((leftN Dn j : Nat) : Int) + 1) = ((leftN Dn j : Nat) : Int) + 1 := IntWalk.i64_in _ (by omega)
                    clear hls
                    cases hd : Dn j
                    · rw [hd] at f1
                      have HLe : Hid (((leftN Dn (j + 1) : Nat) : Int) = ((leftN Dn j : Nat) : Int) + 1) := Lib.hid (by rw [HLs.out, hd]; rfl)
                      clear hd
                      go_wp2_with fail
                      go_roundw
                      case rel => exact ⟨j + 1, by omega, by rw [HLe.out], by first | rfl | go_num, HSj.out⟩
                      case measure => simp [intOf]; omega
                    · rw [hd] at f1
                      have HLe : Hid (((leftN Dn (j + 1) : Nat) : Int) = ((leftN Dn j : Nat) : Int)) := Lib.hid (by rw [HLs.out, hd]; rfl)
                      clear hd
                      go_wp2_with fail
                      go_roundw
                      case rel => exact ⟨j + 1, by omega, by rw [HLe.out], by first | rfl | go_num, HSj.out⟩
                      case measure => simp [intOf]; omega
                  · have hjn : ys.length = j := by omega
                    have hjd : decide ((j : Int) < (ys.length : Int)) = false := decide_eq_false (by omega)
                    have hje : decide (j < ys.length) = false := decide_eq_false hjl
                    have HOp := Lib.hid (HSj.out.leaOpen 2 rfl (by omega))
                    have HJn := Lib.hid hjn
                    clear hjn hjl
                    go_wp2_with fail
                    refine HOp.out.mono ?_
                    rintro e w9 ⟨ks, oo, oc, ovs, hks, rfl, hs9⟩
                    have hkl : (opL A.op ks).length = leftN Dn j := by rw [HV.out.open_ hks, HJn.out]
                    rw [hkl]
                    have HB9 := Lib.hid hs9.below
                    clear hks hs9 hkl
                    go_wp2_with fail
                    go_ret
                    exact ⟨by first | rfl | simp, HB9.out⟩
              · have h1d : decide ((q : Int) < (zs.length : Int)) = false := decide_eq_false (by omega)
                have h1e : decide (q < zs.length) = false := decide_eq_false h1
                clear hin
                go_wp2_with fail
                go_loopw [24, 25] (fun vo vk wr => ∃ j : Nat, j ≤ ys.length ∧ vo = .int .i64 (leftN Dn j : Nat) ∧ vk = .int .i64 j ∧ SepW W wr [obArr (LB + 1) ys.length 4 (fun i => .bool (Dn i)), obArr LB ys.length 5 (fun i => .int .u8 (msk 8 (G i) : Nat)), obLea (.pointer (some ⟨b0, 0, none⟩)) D N A]) (fun _ vk _ => ys.length - (intOf vk).toNat)
                case atStart => exact ⟨0, by omega, rfl, rfl, HSq.out⟩
                case round =>
                  clear HSq
                  obtain ⟨j, hj, rfl, rfl, hsep⟩ := hrel
                  have HSj := Lib.hid hsep
                  clear hsep
                  by_cases hjl : j < ys.length
                  · have hji : (j : Int) < (ys.length : Int) := by omega
                    obtain ⟨f1, f2⟩ := HSj.out.arrCell 0 rfl hjl
                    have hlj := leftN_le Dn j
                    have hls := leftN_succ Dn j
                    have HLs := Lib.hid hls
                    have hwl : IntKind.i64.wrap (((leftN Dn j : Nat) : Int) + 1) = ((leftN Dn j : Nat) : Int) + 1 := IntWalk.i64_in _ (by omega)
                    clear hls
                    cases hd : Dn j
                    · rw [hd] at f1
                      have HLe : Hid (((leftN Dn (j + 1) : Nat) : Int) = ((leftN Dn j : Nat) : Int) + 1) := Lib.hid (by rw [HLs.out, hd]; rfl)
                      clear hd
                      go_wp2_with fail
                      go_roundw
                      case rel => exact ⟨j + 1, by omega, by rw [HLe.out], by first | rfl | go_num, HSj.out⟩
                      case measure => simp [intOf]; omega
                    · rw [hd] at f1
                      have HLe : Hid (((leftN Dn (j + 1) : Nat) : Int) = ((leftN Dn j : Nat) : Int)) := Lib.hid (by rw [HLs.out, hd]; rfl)
                      clear hd
                      go_wp2_with fail
                      go_roundw
                      case rel => exact ⟨j + 1, by omega, by rw [HLe.out], by first | rfl | go_num, HSj.out⟩
                      case measure => simp [intOf]; omega
                  · have hjn : ys.length = j := by omega
                    have hjd : decide ((j : Int) < (ys.length : Int)) = false := decide_eq_false (by omega)
                    have hje : decide (j < ys.length) = false := decide_eq_false hjl
                    have HOp := Lib.hid (HSj.out.leaOpen 2 rfl (by omega))
                    have HJn := Lib.hid hjn
                    clear hjn hjl
                    go_wp2_with fail
                    refine HOp.out.mono ?_
                    rintro e w9 ⟨ks, oo, oc, ovs, hks, rfl, hs9⟩
                    have hkl : (opL A.op ks).length = leftN Dn j := by rw [HV.out.open_ hks, HJn.out]
                    rw [hkl]
                    have HB9 := Lib.hid hs9.below
                    clear hks hs9 hkl
                    go_wp2_with fail
                    go_ret
                    exact ⟨by first | rfl | simp, HB9.out⟩
theorem leaderSlots_holds : Rows.LeaderSlotsSaid :=
  OpenClaim.holds_of_wide 8 Try.f8 rfl rfl rfl rfl rfl rfl rfl ⟨rfl, rfl, rfl, rfl, rfl⟩ rfl rfl rfl rfl rfl (by kernel_rfl) Try.func8 (by kernel_rfl)
    (of_decide_eq_true (by kernel_rfl)) (by unfold Func.isWrapper; rw [if_neg (by decide +kernel)]; exact ⟨rfl, rfl⟩)
    (fun os started H enc _ => law_frame (C := Try.checked) (fn := Try.f8) (s := Rows.leaderSlotsSpec) (tb := 4) Try.own started (by kernel_rfl) Try.func8 Try.laidOut rfl (by kernel_rfl) Try.underlying4 (by kernel_rfl)
      (fun ds hd => by match ds, hd with | [_, _, _], _ => exact ⟨rfl, rfl, rfl⟩)
      (ChangeSpec.witness6 (enc := enc) (C := Try.checked) false ⟨#[], #[.int .u8 0, .slice none 0 0, .slice none 0 0], []⟩ 8 (by kernel_rfl) (by kernel_rfl) (by kernel_rfl) (by kernel_rfl))
      (fun W base args ds p hval0 hA0 _ => by
        have hval : ∀ (j : Nat) t v, Try.f8.params[j]? = some t → args[j]? = some v → Value.okWide Try.prog W .any base t v := hval0
        have hA : DataW.TrodAll enc Try.prog W 0 (fun _ => true) true Try.f8.params.toList args.toList ds p := hA0
        rw [Try.params8] at hA hval
        obtain ⟨v0, v1, v2, d0, d1, d2, p0, p1, p2, rfl, rfl, rfl, h0, h1, h2⟩ := trodAll_three hA
        obtain ⟨x0, rfl, rfl, rfl, wx0⟩ := open_int Try.underlying5 (hval 0 5 v0 rfl rfl) h0
        obtain ⟨x1, hx1, wx1⟩ := arg_rowsK Try.underlying89 Try.underlying30 Try.underlying5 (by kernel_rfl) (by kernel_rfl) (hval 1 89 v1 rfl rfl) h1
        obtain ⟨x2, hx2, wx2⟩ := arg_ints Try.underlying30 Try.underlying5 (by kernel_rfl) (hval 2 30 v2 rfl rfl) h2
        exact leaderSlots_walk wx0 hx1 wx1 hx2 wx2))

end Go.Proofs.Ytjdjfhioobhcjaa
