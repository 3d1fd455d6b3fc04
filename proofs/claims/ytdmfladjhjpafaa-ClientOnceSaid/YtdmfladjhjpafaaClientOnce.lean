/-
  ClientOnce: each call is told once, whatever comes twice; until then it is asked for at each tick. No conditions.
-/
import Derived.Test.YtdmfladjhjpafaaOncP
import Derived.Test.YtdmfladjhjpafaaFrame
namespace Go.Proofs.Ytdmfladjhjpafaa
open Go.ChangeShapes Go.WideShapes Go.ChangeAt Go.RowKit Go.Maps
set_option maxRecDepth 1000000

def kdA (xs : List Int) (k : Nat) : Nat → Value := fun j => .int .i64 (if j < k then kdO xs j else 0)
theorem kdA_succ (xs : List Int) (k : Nat) : (fun i => if i = k then .int .i64 (kdO xs k) else kdA xs k i) = kdA xs (k + 1) := by
  funext i
  unfold kdA
  by_cases e : i = k
  · subst e; rw [if_pos rfl, if_pos (by omega)]
  · rw [if_neg e]
    by_cases h : i < k
    · rw [if_pos h, if_pos (by omega)]
    · rw [if_neg h, if_neg (by omega)]
def coM1 (k : Nat) (kd : Int) : Ms := if kd = 1 then ⟨2, 0, 0, 0, 0, 9, (k : Int) + 1, 0, 0, [], []⟩ else ⟨17, 0, 0, 0, 0, 9, (k : Int) + 1, 0, 0, [], []⟩
set_option maxHeartbeats 4000000 in
theorem clientOnce_walk {v0 v1 : Value} {xs ys : List Int} {W : World} (h0 : SlR W v0 (u8s xs)) (w0 : ∀ x ∈ xs, (Lit.int .u8 x).wf = true) (h1 : SlR W v1 (u8s ys)) (w1 : ∀ x ∈ ys, (Lit.int .u8 x).wf = true) :
    Calls Try.prog 3 #[v0, v1] W fun e W' => e = .returned (.bool true) ∧ Below W.heap.size W W' := by
  have HU := Lib.hid (u8_of_wf w0)
  have HV := Lib.hid (u8_of_wf w1)
  have H0 := Lib.hid h0
  have H1 := Lib.hid h1
  obtain ⟨ao, ac, rfl, hac, ham⟩ := h0.form
  obtain ⟨bo, bc, rfl, hbc, hbm⟩ := h1.form
  simp only [List.length_map] at *
  clear h0 w0 h1 w1
  by_cases hlen : xs.length ≤ 20 ∧ ys.length ≤ 60
  rotate_left
  · go_enter Try.func3, Try.ntmps3
    go_wp2_with fail
    refine (cawake_any W).mono ?_
    rintro e w1 ⟨rfl, hb1⟩
    have HB1 := Lib.hid hb1
    clear hb1
    by_cases h20 : xs.length ≤ 20
    · have hli : decide ((20 : Int) < (xs.length : Int)) = false := decide_eq_false (by omega)
      have hlj : (60 : Int) < (ys.length : Int) := by omega
      go_wp2_with fail
      go_ret
      exact ⟨rfl, HB1.out⟩
    · have hli : (20 : Int) < (xs.length : Int) := by omega
      go_wp2_with fail
      go_ret
      exact ⟨rfl, HB1.out⟩
  · obtain ⟨hl0, hl1⟩ := hlen
    have hli : decide ((20 : Int) < (xs.length : Int)) = false := decide_eq_false (by omega)
    have hlj : decide ((60 : Int) < (ys.length : Int)) = false := decide_eq_false (by omega)
    obtain ⟨n, hn⟩ : ∃ n, xs.length = n := ⟨_, rfl⟩
    rw [hn] at hli hl0 hac ⊢
    have HN := Lib.hid hn
    clear hn
    have hmk := fun w => run_make_row' (P := Try.prog) 29 3 (.int .i64 0) 8 Try.underlying29 Try.intInfo rfl .i64 .i64 n (by omega) (by omega) w
    have hmb := fun w => run_make_row' (P := Try.prog) 36 4 (.bool false) 1 Try.underlying36 Try.boolInfo rfl .i64 .i64 n (by omega) (by omega) w
    go_enter Try.func3, Try.ntmps3
    go_wp2_with fail
    refine (cawake_any W).mono ?_
    rintro e w1 ⟨rfl, hb1⟩
    have HB1 := Lib.hid hb1
    clear hb1
    go_wp2_with fail
    obtain ⟨hr, ho, hb⟩ := new_args w1 [3] [0] (by decide) (by decide) 3 29 3
    refine (((SepW.nil HB1.out).step hb).cliNew (id := 9) (by constructor <;> decide) (by decide) hr (by decide) ho (by decide) (by decide)).mono ?_
    rintro e w2 ⟨b0, D0, rfl, hs2⟩
    have hs2 : SepW W w2 [obCli (.pointer (some ⟨b0, 0, none⟩)) D0 0 ⟨9, 0, [[3]], [0], fun _ => none⟩] := hs2
    have hA0 : coA xs 0 = ⟨9, 0, [[3]], [0], fun _ => none⟩ := by
      unfold coA
      simp only [CS.mk.injEq, true_and]
      refine ⟨rfl, ?_⟩
      funext a
      rw [if_neg (by omega)]
    rw [← hA0] at hs2
    have HS3 : Hid (SepW W (w2.alloc (.cells (madeCells #[.int .i64 0] n) 3)) [obArr w2.heap.size n 3 (kdA xs 0), obCli (.pointer (some ⟨b0, 0, none⟩)) D0 0 (coA xs 0)]) := Lib.hid (by
      have := hs2.arrMade (.int .i64 0) 3 n
      have e : kdA xs 0 = fun _ => .int .i64 0 := by funext j; unfold kdA; rw [if_neg (by omega)]
      rw [e]; exact this)
    clear hs2 hr ho hb HB1 hA0
    go_wp2_with fail
    generalize w2.heap.size = LB at *
    go_loopw [9, 10, 11, 12] (fun i _ _ _ wr => ∃ (k : Nat) (D : Nat → Prop), k ≤ n ∧ i = .int .i64 k ∧ SepW W wr [obArr LB n 3 (kdA xs k), obCli (.pointer (some ⟨b0, 0, none⟩)) D (2 * k) (coA xs k)]) (fun i _ _ _ _ => n - (intOf i).toNat)
    case atStart => exact ⟨0, D0, by omega, rfl, HS3.out⟩
    case round =>
      clear HS3
      obtain ⟨k, D, hk, rfl, hsep⟩ := hrel
      have HSk := Lib.hid hsep
      clear hsep
      by_cases hlt : k < n
      · have hki : (k : Int) < (n : Int) := by omega
        have hlx : k < xs.length := by rw [HN.out]; exact hlt
        obtain ⟨x, hx⟩ : ∃ x, xs[k]? = some x := ⟨_, List.getElem?_eq_getElem hlx⟩
        obtain ⟨xo, xc, hxe, _, _, hxx⟩ := (H0.out.below HSk.out.below (Nat.le_refl _))
        simp only [List.length_map, HN.out] at hxe
        cases hxe
        obtain ⟨xa, rfl, hxm⟩ := hxx k (.int .u8 x) (by rw [List.getElem?_map, hx]; rfl)
        have hxb := HU.out x (List.mem_of_getElem? hx)
        have hkd : x % 5 + 1 = kdO xs k := by unfold kdO; rw [List.getD_eq_getElem?_getD, hx]; rfl
        have HKd := Lib.hid hkd
        have hk5 := kdO_le xs k
        obtain ⟨f1, f2⟩ := HSk.out.arrCell 0 rfl hlt
        have hset := HSk.out.arrSet 0 rfl hlt (.int .i64 (kdO xs k))
        rw [kdA_succ] at hset
        have HSt := Lib.hid hset
        have HF2 := Lib.hid f2
        clear hxx hx hset
        go_upto_region 14 with fail
        generalize hW : wr.setCell ⟨LB, k, none⟩ (.int .i64 (kdO xs k)) = W5 at *
        clear hW f1 hkd
        obtain ⟨g1, _⟩ := HSt.out.arrCell 0 rfl hlt
        have hkk : kdA xs (k + 1) k = .int .i64 (kdO xs k) := by unfold kdA; rw [if_pos (by omega)]
        rw [hkk] at g1
        clear hkk hxm
        go_wp2_with fail
        refine (HSt.out.cliBegin 1 rfl (x := cxO (kdO xs k)) (sv := .slice none 0 0) (SlR.nil _) co_ok (Or.inl rfl) (Or.inl rfl) (fun _ => rfl) (by omega) (by show (k : Int) < 1000000; omega)).mono ?_
        rintro e w6 ⟨g, bv, D6, rfl, hs6⟩
        have hs7 := hs6.sub (List.sublist_cons_self _ _)
        have HS7 : Hid (SepW W w6 [obArr LB n 3 (kdA xs (k + 1)), obCli (.pointer (some ⟨b0, 0, none⟩)) D6 (2 * k + 2) (begL (coA xs k) (cxO (kdO xs k)) 1)]) := Lib.hid hs7
        rw [coA_succ] at HS7
        rw [show (coA xs k).last = (k : Int) from rfl]
        have hwk : IntKind.u64.wrap (k : Int) = (k : Int) := IntWalk.u64_in _ (by omega)
        have hwk1 : IntKind.u64.wrap ((k : Int) + 1) = (k : Int) + 1 := IntWalk.u64_in _ (by omega)
        have hneq : (((k : Int) + 1) != ((k : Int) + 1)) = false := by simp
        clear hs6 hs7 g1
        go_wp2_with fail
        go_roundw
        case rel => exact ⟨k + 1, D6, by omega, by go_num, HS7.out⟩
        case measure => simp [intOf]; omega
      · have hkl : k = n := by omega
        subst hkl
        have hkd : decide ((k : Int) < (k : Int)) = false := decide_eq_false (by omega)
        clear hlt hk
        go_upto_region 18 with fail
        have hs2 := HSk.out.arrMade (.bool false) 4 k
        rw [coB_of] at hs2
        have HS2 := Lib.hid hs2
        generalize wr.heap.size = DB at *
        clear hs2 HSk hmk hmb
        go_wp2_with fail
        go_loopw [15, 14, 16, 17, 18, 19] (fun i ov _ _ _ _ wr => ∃ (r : Nat) (d : Nat → Bool) (D : Nat → Prop) (N : Nat), r ≤ ys.length ∧ N ≤ 40 + 20 * r ∧ i = .int .i64 r ∧ ov = .int .i64 ((opO k d).length : Nat) ∧ SepW W wr [obArr DB k 4 (fun j => .bool (d j)), obArr LB k 3 (kdA xs k), obCli (.pointer (some ⟨b0, 0, none⟩)) D N (coB xs k d ((r : Int) + 1))]) (fun i _ _ _ _ _ _ => ys.length - (intOf i).toNat)
        case atStart => exact ⟨0, fun _ => false, D, 2 * k, by omega, by omega, rfl, by rw [opO_none], HS2.out⟩
        case round =>
          clear HS2
          obtain ⟨r, d, D2, N, hr, hN, rfl, rfl, hsep⟩ := hrel
          have HSr := Lib.hid hsep
          clear hsep
          by_cases hlt : r < ys.length ∧ 0 < k
          · obtain ⟨hlr, hk0⟩ := hlt
            have hri : (r : Int) < (ys.length : Int) := by omega
            have hki : (0 : Int) < (k : Int) := by omega
            obtain ⟨y, hy⟩ : ∃ y, ys[r]? = some y := ⟨_, List.getElem?_eq_getElem hlr⟩
            obtain ⟨yo, yc, hye, _, _, hyy⟩ := (H1.out.below HSr.out.below (Nat.le_refl _))
            simp only [List.length_map] at hye
            cases hye
            obtain ⟨ya, rfl, hym⟩ := hyy r (.int .u8 y) (by rw [List.getElem?_map, hy]; rfl)
            have hyb := HV.out y (List.mem_of_getElem? hy)
            obtain ⟨q, hq⟩ : ∃ q : Nat, y % (k : Int) = (q : Int) := ⟨(y % (k : Int)).toNat, by have := Int.emod_nonneg y (show (k : Int) ≠ 0 by omega); omega⟩
            have hqk : q < k := by have := Int.emod_lt_of_pos y hki; omega
            have hqi : (q : Int) < (k : Int) := by omega
            have hkne : ¬ (k = 0) := by omega
            have hwq : IntKind.u64.wrap (q : Int) = (q : Int) := IntWalk.u64_in _ (by omega)
            have hwq1 : IntKind.u64.wrap ((q : Int) + 1) = (q : Int) + 1 := IntWalk.u64_in _ (by omega)
            have HQ := Lib.hid hq
            clear hyy hy
            go_upto_region 23 with fail
            rw [HQ.out]
            go_upto_region 24 with fail
            have hs5 := HSr.out.newBlk (msC ⟨17, 0, 0, 0, 0, 9, (q : Int) + 1, 0, 0, [], []⟩ (.slice none 0 0) (.slice none 0 0)) 39
            obtain ⟨W5, HW5⟩ : ∃ z, z = wr.alloc (.cells (msC ⟨17, 0, 0, 0, 0, 9, (q : Int) + 1, 0, 0, [], []⟩ (.slice none 0 0) (.slice none 0 0)) 39) := ⟨_, rfl⟩
            rw [← HW5] at hs5 ⊢
            clear HW5 hym hq hwq hwq1
            generalize wr.heap.size = B at *
            obtain ⟨g1, _⟩ := hs5.arrCell 2 rfl hqk
            have hkk : kdA xs k q = .int .i64 (kdO xs q) := by unfold kdA; rw [if_pos hqk]
            rw [hkk] at g1
            have HKk := Lib.hid hkk
            have hk5 := kdO_le xs q
            have HK5 := Lib.hid hk5
            have hBL : ¬ (B = LB) := fun e => hs5.sep.two (i := 0) (j := 2) (by decide) rfl rfl B rfl e
            have hLB : ¬ (LB = B) := fun e => hBL e.symm
            have HS5 := Lib.hid hs5
            obtain ⟨m0, z0⟩ := hs5.blk 0 rfl 0 _ rfl
            obtain ⟨kd, hkd⟩ : ∃ kd, kdO xs q = kd := ⟨_, rfl⟩
            rw [hkd] at g1 hk5
            have HKd := Lib.hid hkd
            clear hs5 hkk hkd
            obtain ⟨m8, z8⟩ := HS5.out.blk 0 rfl 8 _ rfl
            have hk3 : kd = 1 ∨ kd = 2 ∨ (kd ≠ 1 ∧ kd ≠ 2) := by omega
            rcases hk3 with hk | hk | hk
            · skip
              have hb1 : (kd == 1) = true := by rw [beq_iff_eq]; exact hk
              have hb2 : (kd == 2) = false := by rw [beq_eq_false_iff_ne]; omega
              have hM : coM q kd = ⟨2, 0, 0, 0, 0, 9, (q : Int) + 1, 0, 0, [], []⟩ := by unfold coM; rw [if_pos hk]
              have HM := Lib.hid hM
              clear hM hk
              go_upto_region 29 with fail
              have hs7 := HS5.out.blkSet 0 rfl 0 (.int .i64 2)
              obtain ⟨W7, HW7⟩ : ∃ z, z = W5.setCell ⟨B, 0, none⟩ (.int .i64 2) := ⟨_, rfl⟩
              rw [← HW7] at hs7 ⊢
              have HS7 : Hid (SepW W W7 [obBlk B (.cells (msC (coM q kd) (.slice none 0 0) (.slice none 0 0)) 39), obArr DB k 4 (fun j => .bool (d j)), obArr LB k 3 (kdA xs k), obCli (.pointer (some ⟨b0, 0, none⟩)) D2 N (coB xs k d ((r : Int) + 1))]) := Lib.hid (by rw [HM.out]; simpa using hs7)
              clear hs7 HW7 HM g1 m0 z0 m8 z8 hb1 hb2
              obtain ⟨f1, f2, f3, f4⟩ := coM_facts q kd
              go_wp2_with (first
                | (refine wpList_loadRow rfl 39 (.tmp 17) rfl B _ 39 (HS7.out.get 0 rfl) rfl _ Try.underlying39 rfl (by kernel_rfl) ?_)
                | fail)
              have hat := coB_at (xs := xs) (d := d) ((r : Int) + 1) hqk
              cases hd : d q with
              | true =>
                rw [hd] at hat
                refine (HS7.out.cliNo 3 rfl (m := coM q kd) (by rw [f2]; constructor <;> omega) f3 (fun _ x k' e => by rw [f2, hat] at e; cases e)).mono ?_
                rintro e w8 ⟨rfl, hs8⟩
                have hsd : setD d q = d := setD_same hd
                have hs8 : SepW W w8 [obBlk B (.cells (msC (coM q kd) (.slice none 0 0) (.slice none 0 0)) 39), obArr DB k 4 (fun j => .bool (d j)), obArr LB k 3 (kdA xs k), obCli (.pointer (some ⟨b0, 0, none⟩)) D2 N (coB xs k (setD d q) ((r : Int) + 1))] := by rw [hsd]; exact hs8
                rw [← hsd]
                have HSd := Lib.hid hsd
                clear hat hsd f1 f3 f4 HS7
                rw [show opO k (setD d q) = opO k d by rw [HSd.out]]
                have hs9 := hs8.newBlk (rep0) 41
                go_upto_region 30 with fail
                obtain ⟨W9, HW9⟩ : ∃ z, z = w8.alloc (.cells (rep0) 41) := ⟨_, rfl⟩
                rw [← HW9] at hs9 ⊢
                clear HW9
                generalize w8.heap.size = C at *
                obtain ⟨p0, _⟩ := hs9.blk 0 rfl 0 (.int .u64 0) rfl
                obtain ⟨p1, _⟩ := hs9.blk 0 rfl 1 (.int .i64 0) rfl
                obtain ⟨p6, _⟩ := hs9.blk 1 rfl 6 _ rfl
                obtain ⟨x1, x2⟩ := hs9.arrCell 2 rfl hqk
                obtain ⟨g1, _⟩ := hs9.arrCell 3 rfl hqk
                rw [HKk.out, HKd.out] at g1
                rw [f2] at p6
                rw [hd] at x1
                have HS9 := Lib.hid hs9
                have HX2 := Lib.hid x2
                clear hs9 f2 hd
                go_quiet (fail)
                have hs10 := ((HS9.out.drewN nq).arrSet 2 rfl hqk (.bool true))
                have hse : obArr DB k 4 (fun i => if i = q then .bool true else .bool (d i)) = obArr DB k 4 (fun j => .bool (setD d q j)) := obArr_congr fun i _ => by
                  unfold setD
                  by_cases e : i = q
                  · rw [if_pos e, if_pos e]
                  · rw [if_neg e, if_neg e]
                rw [hse] at hs10
                have hs10 := hs10.sub (l := [obArr DB k 4 (fun j => .bool (setD d q j)), obArr LB k 3 (kdA xs k), obCli (.pointer (some ⟨b0, 0, none⟩)) D2 N (coB xs k (setD d q) ((r : Int) + 1))]) (by first | exact (List.sublist_cons_self _ _).trans (List.sublist_cons_self _ _) | (refine List.Sublist.trans ?_ ((List.sublist_cons_self _ _).trans (List.sublist_cons_self _ _)); exact List.Sublist.refl _))
                have HS10 := Lib.hid hs10
                clear hs10 hse p0 p1 p6 g1 HS9
                go_upto_region 35 with fail
                clear x1 x2
                generalize (W9.drewN nq).setCell ⟨DB, q, none⟩ (.bool true) = W10 at *
                have hKs : ∀ a, ((coB xs k (setD d q) ((r : Int) + 1)).l a).isSome = true → a ∈ (List.range k).map (fun i : Nat => (i : Int) + 1) := fun a ha => by
                  unfold coB at ha
                  simp only at ha
                  split at ha
                  · rename_i hc
                    simp only [List.mem_map, List.mem_range]
                    exact ⟨(a - 1).toNat, by omega, by omega⟩
                  · cases ha
                have hKl : ((List.range k).map (fun i : Nat => (i : Int) + 1)).length = k := by simp
                have HKs := Lib.hid hKs
                have HKl := Lib.hid hKl
                clear hKs hKl
                go_wp2_with fail
                refine (HS10.out.cliOpen 2 rfl (by omega) (by rw [HKl.out]; omega) HKs.out).mono ?_
                rintro e w11 ⟨ks, ko, kc, hks, rfl, hs11⟩
                obtain rfl := opO_keys hks
                have HS11 := Lib.hid (hs11.sub (List.sublist_cons_self _ _))
                have hln : ((opO k (setD d q)).map (fun i : Nat => (i : Int) + 1)).length = (opO k (setD d q)).length := by simp
                rw [hln]
                have HLn := Lib.hid hln
                have hle := opO_le k (setD d q)
                rw [show opO k (setD d q) = opO k d by rw [HSd.out]]
                clear hs11 hks hln HS10
                go_wp2_with fail
                refine (HS11.out.cliTick 2 rfl (by rw [HKl.out]; omega) HKs.out (fun a y m e => by
                  unfold coB at e
                  simp only at e
                  split at e
                  · cases e; omega
                  · cases e)).mono ?_
                rintro e w12 ⟨ks, uo, uc, cs, hks, rfl, hcs, hs12⟩
                obtain rfl := opO_keys hks
                rw [HLn.out] at hs12 ⊢
                rw [show opO k (setD d q) = opO k d by rw [HSd.out]]
                have hs13 := hs12.sub (List.sublist_cons_self _ _)
                have HS13 : Hid (SepW W w12 [obArr DB k 4 (fun j => .bool (setD d q j)), obArr LB k 3 (kdA xs k), obCli (.pointer (some ⟨b0, 0, none⟩)) D2 (N + (opO k (setD d q)).length) (tickA (coB xs k (setD d q) ((r : Int) + 1)))]) := Lib.hid hs13
                rw [coB_tick] at HS13
                clear hs12 hs13 hks hcs HS11
                go_wp2_with fail
                go_roundw
                case rel => exact ⟨r + 1, setD d q, D2, N + (opO k (setD d q)).length, by omega, by omega, by go_num, by rw [HSd.out], by have := HS13.out; rw [show (((r + 1 : Nat) : Int) + 1) = (r : Int) + 1 + 1 by omega]; exact this⟩
                case measure => simp [intOf]; omega
              | false =>
                rw [hd] at hat
                rw [if_pos rfl] at hat
                refine (HS7.out.cliYes 3 rfl (m := coM q kd) (x := cxO (kdO xs q)) (k := (r : Int) + 1) f1 (by rw [f2]; constructor <;> omega) f3 (by rw [f4]; exact SlR.nil _) (by rw [f4]; intro a ha; cases ha) (by rw [f4]; decide) (by rw [f2]; exact hat) (by rw [HKd.out]; exact coM_fits hk5)).mono ?_
                rintro e w8 ⟨so, sl, sc, code, qq, f, o, bo4, bl, bc4, at_, rfl, _, hs8⟩
                have hs8 : SepW W w8 [obBlk B (.cells (msC (coM q kd) (.slice none 0 0) (.slice none 0 0)) 39), obArr DB k 4 (fun j => .bool (d j)), obArr LB k 3 (kdA xs k), obCli (.pointer (some ⟨b0, 0, none⟩)) D2 N (setL (coB xs k d ((r : Int) + 1)) (coM q kd).seq none)] := hs8
                rw [f2, coB_del] at hs8
                rw [f2, HKd.out]
                obtain ⟨L', hL'⟩ : ∃ L', (opO k d).length = L' + 1 := ⟨(opO k (setD d q)).length, (opO_set hqk hd).symm⟩
                have hLL : (opO k (setD d q)).length = L' := by have := opO_set hqk hd; omega
                rw [hL']
                have HLL := Lib.hid hLL
                have HL' := Lib.hid hL'
                have hLb : L' + 1 ≤ k := by rw [← hL']; exact opO_le k d
                clear hat f1 f3 f4 HS7 hLL hL'
                have hs9 := hs8.newBlk (repC ((q : Int) + 1) (cxO kd) (.slice so sl sc) code qq f o (.slice bo4 bl bc4) at_) 41
                go_upto_region 30 with fail
                obtain ⟨W9, HW9⟩ : ∃ z, z = w8.alloc (.cells (repC ((q : Int) + 1) (cxO kd) (.slice so sl sc) code qq f o (.slice bo4 bl bc4) at_) 41) := ⟨_, rfl⟩
                rw [← HW9] at hs9 ⊢
                clear HW9
                generalize w8.heap.size = C at *
                obtain ⟨p0, _⟩ := hs9.blk 0 rfl 0 (.int .u64 ((q : Int) + 1)) rfl
                obtain ⟨p1, _⟩ := hs9.blk 0 rfl 1 (.int .i64 kd) rfl
                obtain ⟨p6, _⟩ := hs9.blk 1 rfl 6 _ rfl
                obtain ⟨x1, x2⟩ := hs9.arrCell 2 rfl hqk
                obtain ⟨g1, _⟩ := hs9.arrCell 3 rfl hqk
                rw [HKk.out, HKd.out] at g1
                rw [f2] at p6
                rw [hd] at x1
                have HS9 := Lib.hid hs9
                have HX2 := Lib.hid x2
                clear hs9 f2 hd
                go_quiet (fail)
                have hs10 := ((HS9.out.drewN nq).arrSet 2 rfl hqk (.bool true))
                have hse : obArr DB k 4 (fun i => if i = q then .bool true else .bool (d i)) = obArr DB k 4 (fun j => .bool (setD d q j)) := obArr_congr fun i _ => by
                  unfold setD
                  by_cases e : i = q
                  · rw [if_pos e, if_pos e]
                  · rw [if_neg e, if_neg e]
                rw [hse] at hs10
                have hs10 := hs10.sub (l := [obArr DB k 4 (fun j => .bool (setD d q j)), obArr LB k 3 (kdA xs k), obCli (.pointer (some ⟨b0, 0, none⟩)) D2 N (coB xs k (setD d q) ((r : Int) + 1))]) (by first | exact (List.sublist_cons_self _ _).trans (List.sublist_cons_self _ _) | (refine List.Sublist.trans ?_ ((List.sublist_cons_self _ _).trans (List.sublist_cons_self _ _)); exact List.Sublist.refl _))
                have HS10 := Lib.hid hs10
                clear hs10 hse p0 p1 p6 g1 HS9
                go_upto_region 35 with fail
                clear x1 x2
                generalize (W9.drewN nq).setCell ⟨DB, q, none⟩ (.bool true) = W10 at *
                have hKs : ∀ a, ((coB xs k (setD d q) ((r : Int) + 1)).l a).isSome = true → a ∈ (List.range k).map (fun i : Nat => (i : Int) + 1) := fun a ha => by
                  unfold coB at ha
                  simp only at ha
                  split at ha
                  · rename_i hc
                    simp only [List.mem_map, List.mem_range]
                    exact ⟨(a - 1).toNat, by omega, by omega⟩
                  · cases ha
                have hKl : ((List.range k).map (fun i : Nat => (i : Int) + 1)).length = k := by simp
                have HKs := Lib.hid hKs
                have HKl := Lib.hid hKl
                clear hKs hKl
                go_wp2_with fail
                refine (HS10.out.cliOpen 2 rfl (by omega) (by rw [HKl.out]; omega) HKs.out).mono ?_
                rintro e w11 ⟨ks, ko, kc, hks, rfl, hs11⟩
                obtain rfl := opO_keys hks
                have HS11 := Lib.hid (hs11.sub (List.sublist_cons_self _ _))
                have hln : ((opO k (setD d q)).map (fun i : Nat => (i : Int) + 1)).length = (opO k (setD d q)).length := by simp
                rw [hln]
                have HLn := Lib.hid hln
                have hle := opO_le k (setD d q)
                rw [HLL.out]
                clear hs11 hks hln HS10
                go_wp2_with fail
                refine (HS11.out.cliTick 2 rfl (by rw [HKl.out]; omega) HKs.out (fun a y m e => by
                  unfold coB at e
                  simp only at e
                  split at e
                  · cases e; omega
                  · cases e)).mono ?_
                rintro e w12 ⟨ks, uo, uc, cs, hks, rfl, hcs, hs12⟩
                obtain rfl := opO_keys hks
                rw [HLn.out] at hs12 ⊢
                rw [HLL.out]
                have hs13 := hs12.sub (List.sublist_cons_self _ _)
                have HS13 : Hid (SepW W w12 [obArr DB k 4 (fun j => .bool (setD d q j)), obArr LB k 3 (kdA xs k), obCli (.pointer (some ⟨b0, 0, none⟩)) D2 (N + (opO k (setD d q)).length) (tickA (coB xs k (setD d q) ((r : Int) + 1)))]) := Lib.hid hs13
                rw [coB_tick] at HS13
                clear hs12 hs13 hks hcs HS11
                go_wp2_with fail
                go_roundw
                case rel => exact ⟨r + 1, setD d q, D2, N + (opO k (setD d q)).length, by omega, by omega, by go_num, by rw [HLL.out], by have := HS13.out; rw [show (((r + 1 : Nat) : Int) + 1) = (r : Int) + 1 + 1 by omega]; exact this⟩
                case measure => simp [intOf]; omega
            · skip
              have hb1 : (kd == 1) = false := by rw [beq_eq_false_iff_ne]; omega
              have hb2 : (kd == 2) = true := by rw [beq_iff_eq]; exact hk
              have hM : coM q kd = ⟨15, 0, 0, 0, 0, 9, (q : Int) + 1, 0, 35, [], []⟩ := by unfold coM; rw [if_neg (by omega), if_pos hk]
              have HM := Lib.hid hM
              clear hM hk
              go_upto_region 29 with fail
              have hs7 := HS5.out.blkSet 0 rfl 0 (.int .i64 15) |>.blkSet 0 rfl 8 (.int .i64 35)
              obtain ⟨W7, HW7⟩ : ∃ z, z = (W5.setCell ⟨B, 0, none⟩ (.int .i64 15)).setCell ⟨B, 8, none⟩ (.int .i64 35) := ⟨_, rfl⟩
              rw [← HW7] at hs7 ⊢
              have HS7 : Hid (SepW W W7 [obBlk B (.cells (msC (coM q kd) (.slice none 0 0) (.slice none 0 0)) 39), obArr DB k 4 (fun j => .bool (d j)), obArr LB k 3 (kdA xs k), obCli (.pointer (some ⟨b0, 0, none⟩)) D2 N (coB xs k d ((r : Int) + 1))]) := Lib.hid (by rw [HM.out]; simpa using hs7)
              clear hs7 HW7 HM g1 m0 z0 m8 z8 hb1 hb2
              obtain ⟨f1, f2, f3, f4⟩ := coM_facts q kd
              go_wp2_with (first
                | (refine wpList_loadRow rfl 39 (.tmp 17) rfl B _ 39 (HS7.out.get 0 rfl) rfl _ Try.underlying39 rfl (by kernel_rfl) ?_)
                | fail)
              have hat := coB_at (xs := xs) (d := d) ((r : Int) + 1) hqk
              cases hd : d q with
              | true =>
                rw [hd] at hat
                refine (HS7.out.cliNo 3 rfl (m := coM q kd) (by rw [f2]; constructor <;> omega) f3 (fun _ x k' e => by rw [f2, hat] at e; cases e)).mono ?_
                rintro e w8 ⟨rfl, hs8⟩
                have hsd : setD d q = d := setD_same hd
                have hs8 : SepW W w8 [obBlk B (.cells (msC (coM q kd) (.slice none 0 0) (.slice none 0 0)) 39), obArr DB k 4 (fun j => .bool (d j)), obArr LB k 3 (kdA xs k), obCli (.pointer (some ⟨b0, 0, none⟩)) D2 N (coB xs k (setD d q) ((r : Int) + 1))] := by rw [hsd]; exact hs8
                rw [← hsd]
                have HSd := Lib.hid hsd
                clear hat hsd f1 f3 f4 HS7
                rw [show opO k (setD d q) = opO k d by rw [HSd.out]]
                have hs9 := hs8.newBlk (rep0) 41
                go_upto_region 30 with fail
                obtain ⟨W9, HW9⟩ : ∃ z, z = w8.alloc (.cells (rep0) 41) := ⟨_, rfl⟩
                rw [← HW9] at hs9 ⊢
                clear HW9
                generalize w8.heap.size = C at *
                obtain ⟨p0, _⟩ := hs9.blk 0 rfl 0 (.int .u64 0) rfl
                obtain ⟨p1, _⟩ := hs9.blk 0 rfl 1 (.int .i64 0) rfl
                obtain ⟨p6, _⟩ := hs9.blk 1 rfl 6 _ rfl
                obtain ⟨x1, x2⟩ := hs9.arrCell 2 rfl hqk
                obtain ⟨g1, _⟩ := hs9.arrCell 3 rfl hqk
                rw [HKk.out, HKd.out] at g1
                rw [f2] at p6
                rw [hd] at x1
                have HS9 := Lib.hid hs9
                have HX2 := Lib.hid x2
                clear hs9 f2 hd
                go_quiet (fail)
                have hs10 := ((HS9.out.drewN nq).arrSet 2 rfl hqk (.bool true))
                have hse : obArr DB k 4 (fun i => if i = q then .bool true else .bool (d i)) = obArr DB k 4 (fun j => .bool (setD d q j)) := obArr_congr fun i _ => by
                  unfold setD
                  by_cases e : i = q
                  · rw [if_pos e, if_pos e]
                  · rw [if_neg e, if_neg e]
                rw [hse] at hs10
                have hs10 := hs10.sub (l := [obArr DB k 4 (fun j => .bool (setD d q j)), obArr LB k 3 (kdA xs k), obCli (.pointer (some ⟨b0, 0, none⟩)) D2 N (coB xs k (setD d q) ((r : Int) + 1))]) (by first | exact (List.sublist_cons_self _ _).trans (List.sublist_cons_self _ _) | (refine List.Sublist.trans ?_ ((List.sublist_cons_self _ _).trans (List.sublist_cons_self _ _)); exact List.Sublist.refl _))
                have HS10 := Lib.hid hs10
                clear hs10 hse p0 p1 p6 g1 HS9
                go_upto_region 35 with fail
                clear x1 x2
                generalize (W9.drewN nq).setCell ⟨DB, q, none⟩ (.bool true) = W10 at *
                have hKs : ∀ a, ((coB xs k (setD d q) ((r : Int) + 1)).l a).isSome = true → a ∈ (List.range k).map (fun i : Nat => (i : Int) + 1) := fun a ha => by
                  unfold coB at ha
                  simp only at ha
                  split at ha
                  · rename_i hc
                    simp only [List.mem_map, List.mem_range]
                    exact ⟨(a - 1).toNat, by omega, by omega⟩
                  · cases ha
                have hKl : ((List.range k).map (fun i : Nat => (i : Int) + 1)).length = k := by simp
                have HKs := Lib.hid hKs
                have HKl := Lib.hid hKl
                clear hKs hKl
                go_wp2_with fail
                refine (HS10.out.cliOpen 2 rfl (by omega) (by rw [HKl.out]; omega) HKs.out).mono ?_
                rintro e w11 ⟨ks, ko, kc, hks, rfl, hs11⟩
                obtain rfl := opO_keys hks
                have HS11 := Lib.hid (hs11.sub (List.sublist_cons_self _ _))
                have hln : ((opO k (setD d q)).map (fun i : Nat => (i : Int) + 1)).length = (opO k (setD d q)).length := by simp
                rw [hln]
                have HLn := Lib.hid hln
                have hle := opO_le k (setD d q)
                rw [show opO k (setD d q) = opO k d by rw [HSd.out]]
                clear hs11 hks hln HS10
                go_wp2_with fail
                refine (HS11.out.cliTick 2 rfl (by rw [HKl.out]; omega) HKs.out (fun a y m e => by
                  unfold coB at e
                  simp only at e
                  split at e
                  · cases e; omega
                  · cases e)).mono ?_
                rintro e w12 ⟨ks, uo, uc, cs, hks, rfl, hcs, hs12⟩
                obtain rfl := opO_keys hks
                rw [HLn.out] at hs12 ⊢
                rw [show opO k (setD d q) = opO k d by rw [HSd.out]]
                have hs13 := hs12.sub (List.sublist_cons_self _ _)
                have HS13 : Hid (SepW W w12 [obArr DB k 4 (fun j => .bool (setD d q j)), obArr LB k 3 (kdA xs k), obCli (.pointer (some ⟨b0, 0, none⟩)) D2 (N + (opO k (setD d q)).length) (tickA (coB xs k (setD d q) ((r : Int) + 1)))]) := Lib.hid hs13
                rw [coB_tick] at HS13
                clear hs12 hs13 hks hcs HS11
                go_wp2_with fail
                go_roundw
                case rel => exact ⟨r + 1, setD d q, D2, N + (opO k (setD d q)).length, by omega, by omega, by go_num, by rw [HSd.out], by have := HS13.out; rw [show (((r + 1 : Nat) : Int) + 1) = (r : Int) + 1 + 1 by omega]; exact this⟩
                case measure => simp [intOf]; omega
              | false =>
                rw [hd] at hat
                rw [if_pos rfl] at hat
                refine (HS7.out.cliYes 3 rfl (m := coM q kd) (x := cxO (kdO xs q)) (k := (r : Int) + 1) f1 (by rw [f2]; constructor <;> omega) f3 (by rw [f4]; exact SlR.nil _) (by rw [f4]; intro a ha; cases ha) (by rw [f4]; decide) (by rw [f2]; exact hat) (by rw [HKd.out]; exact coM_fits hk5)).mono ?_
                rintro e w8 ⟨so, sl, sc, code, qq, f, o, bo4, bl, bc4, at_, rfl, _, hs8⟩
                have hs8 : SepW W w8 [obBlk B (.cells (msC (coM q kd) (.slice none 0 0) (.slice none 0 0)) 39), obArr DB k 4 (fun j => .bool (d j)), obArr LB k 3 (kdA xs k), obCli (.pointer (some ⟨b0, 0, none⟩)) D2 N (setL (coB xs k d ((r : Int) + 1)) (coM q kd).seq none)] := hs8
                rw [f2, coB_del] at hs8
                rw [f2, HKd.out]
                obtain ⟨L', hL'⟩ : ∃ L', (opO k d).length = L' + 1 := ⟨(opO k (setD d q)).length, (opO_set hqk hd).symm⟩
                have hLL : (opO k (setD d q)).length = L' := by have := opO_set hqk hd; omega
                rw [hL']
                have HLL := Lib.hid hLL
                have HL' := Lib.hid hL'
                have hLb : L' + 1 ≤ k := by rw [← hL']; exact opO_le k d
                clear hat f1 f3 f4 HS7 hLL hL'
                have hs9 := hs8.newBlk (repC ((q : Int) + 1) (cxO kd) (.slice so sl sc) code qq f o (.slice bo4 bl bc4) at_) 41
                go_upto_region 30 with fail
                obtain ⟨W9, HW9⟩ : ∃ z, z = w8.alloc (.cells (repC ((q : Int) + 1) (cxO kd) (.slice so sl sc) code qq f o (.slice bo4 bl bc4) at_) 41) := ⟨_, rfl⟩
                rw [← HW9] at hs9 ⊢
                clear HW9
                generalize w8.heap.size = C at *
                obtain ⟨p0, _⟩ := hs9.blk 0 rfl 0 (.int .u64 ((q : Int) + 1)) rfl
                obtain ⟨p1, _⟩ := hs9.blk 0 rfl 1 (.int .i64 kd) rfl
                obtain ⟨p6, _⟩ := hs9.blk 1 rfl 6 _ rfl
                obtain ⟨x1, x2⟩ := hs9.arrCell 2 rfl hqk
                obtain ⟨g1, _⟩ := hs9.arrCell 3 rfl hqk
                rw [HKk.out, HKd.out] at g1
                rw [f2] at p6
                rw [hd] at x1
                have HS9 := Lib.hid hs9
                have HX2 := Lib.hid x2
                clear hs9 f2 hd
                go_quiet (fail)
                have hs10 := ((HS9.out.drewN nq).arrSet 2 rfl hqk (.bool true))
                have hse : obArr DB k 4 (fun i => if i = q then .bool true else .bool (d i)) = obArr DB k 4 (fun j => .bool (setD d q j)) := obArr_congr fun i _ => by
                  unfold setD
                  by_cases e : i = q
                  · rw [if_pos e, if_pos e]
                  · rw [if_neg e, if_neg e]
                rw [hse] at hs10
                have hs10 := hs10.sub (l := [obArr DB k 4 (fun j => .bool (setD d q j)), obArr LB k 3 (kdA xs k), obCli (.pointer (some ⟨b0, 0, none⟩)) D2 N (coB xs k (setD d q) ((r : Int) + 1))]) (by first | exact (List.sublist_cons_self _ _).trans (List.sublist_cons_self _ _) | (refine List.Sublist.trans ?_ ((List.sublist_cons_self _ _).trans (List.sublist_cons_self _ _)); exact List.Sublist.refl _))
                have HS10 := Lib.hid hs10
                clear hs10 hse p0 p1 p6 g1 HS9
                go_upto_region 35 with fail
                clear x1 x2
                generalize (W9.drewN nq).setCell ⟨DB, q, none⟩ (.bool true) = W10 at *
                have hKs : ∀ a, ((coB xs k (setD d q) ((r : Int) + 1)).l a).isSome = true → a ∈ (List.range k).map (fun i : Nat => (i : Int) + 1) := fun a ha => by
                  unfold coB at ha
                  simp only at ha
                  split at ha
                  · rename_i hc
                    simp only [List.mem_map, List.mem_range]
                    exact ⟨(a - 1).toNat, by omega, by omega⟩
                  · cases ha
                have hKl : ((List.range k).map (fun i : Nat => (i : Int) + 1)).length = k := by simp
                have HKs := Lib.hid hKs
                have HKl := Lib.hid hKl
                clear hKs hKl
                go_wp2_with fail
                refine (HS10.out.cliOpen 2 rfl (by omega) (by rw [HKl.out]; omega) HKs.out).mono ?_
                rintro e w11 ⟨ks, ko, kc, hks, rfl, hs11⟩
                obtain rfl := opO_keys hks
                have HS11 := Lib.hid (hs11.sub (List.sublist_cons_self _ _))
                have hln : ((opO k (setD d q)).map (fun i : Nat => (i : Int) + 1)).length = (opO k (setD d q)).length := by simp
                rw [hln]
                have HLn := Lib.hid hln
                have hle := opO_le k (setD d q)
                rw [HLL.out]
                clear hs11 hks hln HS10
                go_wp2_with fail
                refine (HS11.out.cliTick 2 rfl (by rw [HKl.out]; omega) HKs.out (fun a y m e => by
                  unfold coB at e
                  simp only at e
                  split at e
                  · cases e; omega
                  · cases e)).mono ?_
                rintro e w12 ⟨ks, uo, uc, cs, hks, rfl, hcs, hs12⟩
                obtain rfl := opO_keys hks
                rw [HLn.out] at hs12 ⊢
                rw [HLL.out]
                have hs13 := hs12.sub (List.sublist_cons_self _ _)
                have HS13 : Hid (SepW W w12 [obArr DB k 4 (fun j => .bool (setD d q j)), obArr LB k 3 (kdA xs k), obCli (.pointer (some ⟨b0, 0, none⟩)) D2 (N + (opO k (setD d q)).length) (tickA (coB xs k (setD d q) ((r : Int) + 1)))]) := Lib.hid hs13
                rw [coB_tick] at HS13
                clear hs12 hs13 hks hcs HS11
                go_wp2_with fail
                go_roundw
                case rel => exact ⟨r + 1, setD d q, D2, N + (opO k (setD d q)).length, by omega, by omega, by go_num, by rw [HLL.out], by have := HS13.out; rw [show (((r + 1 : Nat) : Int) + 1) = (r : Int) + 1 + 1 by omega]; exact this⟩
                case measure => simp [intOf]; omega
            · skip
              have hb1 : (kd == 1) = false := by rw [beq_eq_false_iff_ne]; exact hk.1
              have hb2 : (kd == 2) = false := by rw [beq_eq_false_iff_ne]; exact hk.2
              have hM : coM q kd = ⟨17, 0, 0, 0, 0, 9, (q : Int) + 1, 0, 0, [], []⟩ := by unfold coM; rw [if_neg hk.1, if_neg hk.2]
              have HM := Lib.hid hM
              clear hM hk
              go_upto_region 29 with fail
              have hs7 := HS5.out
              obtain ⟨W7, HW7⟩ : ∃ z, z = W5 := ⟨_, rfl⟩
              rw [← HW7] at hs7 ⊢
              have HS7 : Hid (SepW W W7 [obBlk B (.cells (msC (coM q kd) (.slice none 0 0) (.slice none 0 0)) 39), obArr DB k 4 (fun j => .bool (d j)), obArr LB k 3 (kdA xs k), obCli (.pointer (some ⟨b0, 0, none⟩)) D2 N (coB xs k d ((r : Int) + 1))]) := Lib.hid (by rw [HM.out]; simpa using hs7)
              clear hs7 HW7 HM g1 m0 z0 m8 z8 hb1 hb2
              obtain ⟨f1, f2, f3, f4⟩ := coM_facts q kd
              go_wp2_with (first
                | (refine wpList_loadRow rfl 39 (.tmp 17) rfl B _ 39 (HS7.out.get 0 rfl) rfl _ Try.underlying39 rfl (by kernel_rfl) ?_)
                | fail)
              have hat := coB_at (xs := xs) (d := d) ((r : Int) + 1) hqk
              cases hd : d q with
              | true =>
                rw [hd] at hat
                refine (HS7.out.cliNo 3 rfl (m := coM q kd) (by rw [f2]; constructor <;> omega) f3 (fun _ x k' e => by rw [f2, hat] at e; cases e)).mono ?_
                rintro e w8 ⟨rfl, hs8⟩
                have hsd : setD d q = d := setD_same hd
                have hs8 : SepW W w8 [obBlk B (.cells (msC (coM q kd) (.slice none 0 0) (.slice none 0 0)) 39), obArr DB k 4 (fun j => .bool (d j)), obArr LB k 3 (kdA xs k), obCli (.pointer (some ⟨b0, 0, none⟩)) D2 N (coB xs k (setD d q) ((r : Int) + 1))] := by rw [hsd]; exact hs8
                rw [← hsd]
                have HSd := Lib.hid hsd
                clear hat hsd f1 f3 f4 HS7
                rw [show opO k (setD d q) = opO k d by rw [HSd.out]]
                have hs9 := hs8.newBlk (rep0) 41
                go_upto_region 30 with fail
                obtain ⟨W9, HW9⟩ : ∃ z, z = w8.alloc (.cells (rep0) 41) := ⟨_, rfl⟩
                rw [← HW9] at hs9 ⊢
                clear HW9
                generalize w8.heap.size = C at *
                obtain ⟨p0, _⟩ := hs9.blk 0 rfl 0 (.int .u64 0) rfl
                obtain ⟨p1, _⟩ := hs9.blk 0 rfl 1 (.int .i64 0) rfl
                obtain ⟨p6, _⟩ := hs9.blk 1 rfl 6 _ rfl
                obtain ⟨x1, x2⟩ := hs9.arrCell 2 rfl hqk
                obtain ⟨g1, _⟩ := hs9.arrCell 3 rfl hqk
                rw [HKk.out, HKd.out] at g1
                rw [f2] at p6
                rw [hd] at x1
                have HS9 := Lib.hid hs9
                have HX2 := Lib.hid x2
                clear hs9 f2 hd
                go_quiet (fail)
                have hs10 := ((HS9.out.drewN nq).arrSet 2 rfl hqk (.bool true))
                have hse : obArr DB k 4 (fun i => if i = q then .bool true else .bool (d i)) = obArr DB k 4 (fun j => .bool (setD d q j)) := obArr_congr fun i _ => by
                  unfold setD
                  by_cases e : i = q
                  · rw [if_pos e, if_pos e]
                  · rw [if_neg e, if_neg e]
                rw [hse] at hs10
                have hs10 := hs10.sub (l := [obArr DB k 4 (fun j => .bool (setD d q j)), obArr LB k 3 (kdA xs k), obCli (.pointer (some ⟨b0, 0, none⟩)) D2 N (coB xs k (setD d q) ((r : Int) + 1))]) (by first | exact (List.sublist_cons_self _ _).trans (List.sublist_cons_self _ _) | (refine List.Sublist.trans ?_ ((List.sublist_cons_self _ _).trans (List.sublist_cons_self _ _)); exact List.Sublist.refl _))
                have HS10 := Lib.hid hs10
                clear hs10 hse p0 p1 p6 g1 HS9
                go_upto_region 35 with fail
                clear x1 x2
                generalize (W9.drewN nq).setCell ⟨DB, q, none⟩ (.bool true) = W10 at *
                have hKs : ∀ a, ((coB xs k (setD d q) ((r : Int) + 1)).l a).isSome = true → a ∈ (List.range k).map (fun i : Nat => (i : Int) + 1) := fun a ha => by
                  unfold coB at ha
                  simp only at ha
                  split at ha
                  · rename_i hc
                    simp only [List.mem_map, List.mem_range]
                    exact ⟨(a - 1).toNat, by omega, by omega⟩
                  · cases ha
                have hKl : ((List.range k).map (fun i : Nat => (i : Int) + 1)).length = k := by simp
                have HKs := Lib.hid hKs
                have HKl := Lib.hid hKl
                clear hKs hKl
                go_wp2_with fail
                refine (HS10.out.cliOpen 2 rfl (by omega) (by rw [HKl.out]; omega) HKs.out).mono ?_
                rintro e w11 ⟨ks, ko, kc, hks, rfl, hs11⟩
                obtain rfl := opO_keys hks
                have HS11 := Lib.hid (hs11.sub (List.sublist_cons_self _ _))
                have hln : ((opO k (setD d q)).map (fun i : Nat => (i : Int) + 1)).length = (opO k (setD d q)).length := by simp
                rw [hln]
                have HLn := Lib.hid hln
                have hle := opO_le k (setD d q)
                rw [show opO k (setD d q) = opO k d by rw [HSd.out]]
                clear hs11 hks hln HS10
                go_wp2_with fail
                refine (HS11.out.cliTick 2 rfl (by rw [HKl.out]; omega) HKs.out (fun a y m e => by
                  unfold coB at e
                  simp only at e
                  split at e
                  · cases e; omega
                  · cases e)).mono ?_
                rintro e w12 ⟨ks, uo, uc, cs, hks, rfl, hcs, hs12⟩
                obtain rfl := opO_keys hks
                rw [HLn.out] at hs12 ⊢
                rw [show opO k (setD d q) = opO k d by rw [HSd.out]]
                have hs13 := hs12.sub (List.sublist_cons_self _ _)
                have HS13 : Hid (SepW W w12 [obArr DB k 4 (fun j => .bool (setD d q j)), obArr LB k 3 (kdA xs k), obCli (.pointer (some ⟨b0, 0, none⟩)) D2 (N + (opO k (setD d q)).length) (tickA (coB xs k (setD d q) ((r : Int) + 1)))]) := Lib.hid hs13
                rw [coB_tick] at HS13
                clear hs12 hs13 hks hcs HS11
                go_wp2_with fail
                go_roundw
                case rel => exact ⟨r + 1, setD d q, D2, N + (opO k (setD d q)).length, by omega, by omega, by go_num, by rw [HSd.out], by have := HS13.out; rw [show (((r + 1 : Nat) : Int) + 1) = (r : Int) + 1 + 1 by omega]; exact this⟩
                case measure => simp [intOf]; omega
              | false =>
                rw [hd] at hat
                rw [if_pos rfl] at hat
                refine (HS7.out.cliYes 3 rfl (m := coM q kd) (x := cxO (kdO xs q)) (k := (r : Int) + 1) f1 (by rw [f2]; constructor <;> omega) f3 (by rw [f4]; exact SlR.nil _) (by rw [f4]; intro a ha; cases ha) (by rw [f4]; decide) (by rw [f2]; exact hat) (by rw [HKd.out]; exact coM_fits hk5)).mono ?_
                rintro e w8 ⟨so, sl, sc, code, qq, f, o, bo4, bl, bc4, at_, rfl, _, hs8⟩
                have hs8 : SepW W w8 [obBlk B (.cells (msC (coM q kd) (.slice none 0 0) (.slice none 0 0)) 39), obArr DB k 4 (fun j => .bool (d j)), obArr LB k 3 (kdA xs k), obCli (.pointer (some ⟨b0, 0, none⟩)) D2 N (setL (coB xs k d ((r : Int) + 1)) (coM q kd).seq none)] := hs8
                rw [f2, coB_del] at hs8
                rw [f2, HKd.out]
                obtain ⟨L', hL'⟩ : ∃ L', (opO k d).length = L' + 1 := ⟨(opO k (setD d q)).length, (opO_set hqk hd).symm⟩
                have hLL : (opO k (setD d q)).length = L' := by have := opO_set hqk hd; omega
                rw [hL']
                have HLL := Lib.hid hLL
                have HL' := Lib.hid hL'
                have hLb : L' + 1 ≤ k := by rw [← hL']; exact opO_le k d
                clear hat f1 f3 f4 HS7 hLL hL'
                have hs9 := hs8.newBlk (repC ((q : Int) + 1) (cxO kd) (.slice so sl sc) code qq f o (.slice bo4 bl bc4) at_) 41
                go_upto_region 30 with fail
                obtain ⟨W9, HW9⟩ : ∃ z, z = w8.alloc (.cells (repC ((q : Int) + 1) (cxO kd) (.slice so sl sc) code qq f o (.slice bo4 bl bc4) at_) 41) := ⟨_, rfl⟩
                rw [← HW9] at hs9 ⊢
                clear HW9
                generalize w8.heap.size = C at *
                obtain ⟨p0, _⟩ := hs9.blk 0 rfl 0 (.int .u64 ((q : Int) + 1)) rfl
                obtain ⟨p1, _⟩ := hs9.blk 0 rfl 1 (.int .i64 kd) rfl
                obtain ⟨p6, _⟩ := hs9.blk 1 rfl 6 _ rfl
                obtain ⟨x1, x2⟩ := hs9.arrCell 2 rfl hqk
                obtain ⟨g1, _⟩ := hs9.arrCell 3 rfl hqk
                rw [HKk.out, HKd.out] at g1
                rw [f2] at p6
                rw [hd] at x1
                have HS9 := Lib.hid hs9
                have HX2 := Lib.hid x2
                clear hs9 f2 hd
                go_quiet (fail)
                have hs10 := ((HS9.out.drewN nq).arrSet 2 rfl hqk (.bool true))
                have hse : obArr DB k 4 (fun i => if i = q then .bool true else .bool (d i)) = obArr DB k 4 (fun j => .bool (setD d q j)) := obArr_congr fun i _ => by
                  unfold setD
                  by_cases e : i = q
                  · rw [if_pos e, if_pos e]
                  · rw [if_neg e, if_neg e]
                rw [hse] at hs10
                have hs10 := hs10.sub (l := [obArr DB k 4 (fun j => .bool (setD d q j)), obArr LB k 3 (kdA xs k), obCli (.pointer (some ⟨b0, 0, none⟩)) D2 N (coB xs k (setD d q) ((r : Int) + 1))]) (by first | exact (List.sublist_cons_self _ _).trans (List.sublist_cons_self _ _) | (refine List.Sublist.trans ?_ ((List.sublist_cons_self _ _).trans (List.sublist_cons_self _ _)); exact List.Sublist.refl _))
                have HS10 := Lib.hid hs10
                clear hs10 hse p0 p1 p6 g1 HS9
                go_upto_region 35 with fail
                clear x1 x2
                generalize (W9.drewN nq).setCell ⟨DB, q, none⟩ (.bool true) = W10 at *
                have hKs : ∀ a, ((coB xs k (setD d q) ((r : Int) + 1)).l a).isSome = true → a ∈ (List.range k).map (fun i : Nat => (i : Int) + 1) := fun a ha => by
                  unfold coB at ha
                  simp only at ha
                  split at ha
                  · rename_i hc
                    simp only [List.mem_map, List.mem_range]
                    exact ⟨(a - 1).toNat, by omega, by omega⟩
                  · cases ha
                have hKl : ((List.range k).map (fun i : Nat => (i : Int) + 1)).length = k := by simp
                have HKs := Lib.hid hKs
                have HKl := Lib.hid hKl
                clear hKs hKl
                go_wp2_with fail
                refine (HS10.out.cliOpen 2 rfl (by omega) (by rw [HKl.out]; omega) HKs.out).mono ?_
                rintro e w11 ⟨ks, ko, kc, hks, rfl, hs11⟩
                obtain rfl := opO_keys hks
                have HS11 := Lib.hid (hs11.sub (List.sublist_cons_self _ _))
                have hln : ((opO k (setD d q)).map (fun i : Nat => (i : Int) + 1)).length = (opO k (setD d q)).length := by simp
                rw [hln]
                have HLn := Lib.hid hln
                have hle := opO_le k (setD d q)
                rw [HLL.out]
                clear hs11 hks hln HS10
                go_wp2_with fail
                refine (HS11.out.cliTick 2 rfl (by rw [HKl.out]; omega) HKs.out (fun a y m e => by
                  unfold coB at e
                  simp only at e
                  split at e
                  · cases e; omega
                  · cases e)).mono ?_
                rintro e w12 ⟨ks, uo, uc, cs, hks, rfl, hcs, hs12⟩
                obtain rfl := opO_keys hks
                rw [HLn.out] at hs12 ⊢
                rw [HLL.out]
                have hs13 := hs12.sub (List.sublist_cons_self _ _)
                have HS13 : Hid (SepW W w12 [obArr DB k 4 (fun j => .bool (setD d q j)), obArr LB k 3 (kdA xs k), obCli (.pointer (some ⟨b0, 0, none⟩)) D2 (N + (opO k (setD d q)).length) (tickA (coB xs k (setD d q) ((r : Int) + 1)))]) := Lib.hid hs13
                rw [coB_tick] at HS13
                clear hs12 hs13 hks hcs HS11
                go_wp2_with fail
                go_roundw
                case rel => exact ⟨r + 1, setD d q, D2, N + (opO k (setD d q)).length, by omega, by omega, by go_num, by rw [HLL.out], by have := HS13.out; rw [show (((r + 1 : Nat) : Int) + 1) = (r : Int) + 1 + 1 by omega]; exact this⟩
                case measure => simp [intOf]; omega
          · by_cases hk0 : 0 < k
            · have hle : ¬ (r < ys.length) := fun h => hlt ⟨h, hk0⟩
              have hd1 : decide ((r : Int) < (ys.length : Int)) = false := decide_eq_false (by omega)
              have hd2 : decide (r < ys.length) = false := decide_eq_false hle
              clear hlt
              go_wp2_with fail
              go_ret
              exact ⟨rfl, HSr.out.below⟩
            · have hkz : k = 0 := by omega
              subst hkz
              have hd3 : decide ((0 : Int) < ((0 : Nat) : Int)) = false := by simp
              clear hlt hk0
              by_cases hlr : r < ys.length
              · have hri : (r : Int) < (ys.length : Int) := by omega
                go_wp2_with fail
                go_ret
                exact ⟨rfl, HSr.out.below⟩
              · have hd1 : decide ((r : Int) < (ys.length : Int)) = false := decide_eq_false (by omega)
                have hd2 : decide (r < ys.length) = false := decide_eq_false hlr
                go_wp2_with fail
                go_ret
                exact ⟨rfl, HSr.out.below⟩
theorem clientOnce_holds : Rows.ClientOnceSaid :=
  OpenClaim.holds_of_wide 3 Try.f3 rfl rfl rfl rfl rfl rfl rfl ⟨rfl, rfl, rfl, rfl, rfl⟩ rfl rfl rfl rfl rfl (by kernel_rfl) Try.func3 (by kernel_rfl)
    (of_decide_eq_true (by kernel_rfl)) (by unfold Func.isWrapper; rw [if_neg (by decide +kernel)]; exact ⟨rfl, rfl⟩)
    (fun os started H enc _ => law_frame (C := Try.checked) (fn := Try.f3) (s := Rows.clientOnceSpec) (tb := 4) Try.own started (by kernel_rfl) Try.func3 Try.laidOut rfl (by kernel_rfl) Try.underlying4 (by kernel_rfl)
      (fun ds hd => by match ds, hd with | [_, _], _ => exact ⟨rfl, rfl, rfl⟩)
      (ChangeSpec.witness6 (enc := enc) (C := Try.checked) false ⟨#[], #[.slice none 0 0, .slice none 0 0], []⟩ 8 (by kernel_rfl) (by kernel_rfl) (by kernel_rfl) (by kernel_rfl))
      (fun W base args ds p hval0 hA0 _ => by
        have hval : ∀ (j : Nat) t v, Try.f3.params[j]? = some t → args[j]? = some v → Value.okWide Try.prog W .any base t v := hval0
        have hA : DataW.TrodAll enc Try.prog W 0 (fun _ => true) true Try.f3.params.toList args.toList ds p := hA0
        rw [Try.params3] at hA hval
        obtain ⟨v0, v1, d0, d1, p0, p1, rfl, rfl, rfl, h0, h1⟩ := trodAll_two hA
        obtain ⟨x0, hx0, wx0⟩ := arg_ints Try.underlying22 Try.underlying5 (by kernel_rfl) (hval 0 22 v0 rfl rfl) h0
        obtain ⟨x1, hx1, wx1⟩ := arg_ints Try.underlying22 Try.underlying5 (by kernel_rfl) (hval 1 22 v1 rfl rfl) h1
        exact clientOnce_walk hx0 wx0 hx1 wx1))

end Go.Proofs.Ytdmfladjhjpafaa
