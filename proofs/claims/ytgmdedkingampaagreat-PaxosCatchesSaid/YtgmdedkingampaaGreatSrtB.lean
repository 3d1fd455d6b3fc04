/-
  The library's sort at numbers of 64 bits without sign: slices.Sort.
-/
import Derived.Test.YtgmdedkingampaaGreatSrt9
import Derived.Sort.Walk13
import Derived.Sort.AssemblyPlain
import Derived.Shelf.SortM.So_math_bits_LenIn
set_option linter.unusedVariables false
set_option linter.unusedSimpArgs false
namespace Go.Proofs.YtgmdedkingampaaGreat
open Go.ChangeShapes Go.WideShapes Go.ChangeAt Go.RowKit Go.Sort
set_option maxRecDepth 1000000

theorem hintI_two {h : Hint} (e : hintI h = 2) : h = .decreasing := by cases h <;> simp [hintI] at e ⊢
theorem Keep.dr {S : Nat → Prop} {a w w' : World} (h : Keep S a w) (hd : Drew w w') : Keep S a w' := by obtain ⟨n, rfl⟩ := hd; exact h.drewN n
theorem RowU.n {w : World} {k n : Nat} {d : Array Int} {rest : List Value} (_ : RowU w k d rest) (hn : d.size = n) {P : Nat → Prop} (h : P d.size) : P n := hn ▸ h
/-- Behind a call on the row. -/
theorem RowU.dr {w w' : World} {k : Nat} {d : Array Int} {rest : List Value} (h : RowU w k d rest) (hd : Drew w w') : RowU w' k d rest := by obtain ⟨n, rfl⟩ := hd; exact h

set_option maxHeartbeats 16000000 in
theorem pdq_u : ∀ (N : Nat) {w : World} {k n : Nat} {d : Array Int} {rest : List Value} (cap a b limit : Nat), b - a < N → RowU w k d rest → d.size = n → a ≤ b → b ≤ n → n < 1000000 → limit < 1000000 → Below ltInt a b d →
    Calls Tryz.prog 132 #[.slice (some ⟨k, 0, none⟩) n cap, .int .i64 a, .int .i64 b, .int .i64 limit] w fun e w' => e = .returned (.tuple #[]) ∧ RowU w' k (pdq ltInt d a b limit true true) rest ∧ Keep (fun x => x = k) w w' := by
  intro N
  induction N with
  | zero => intro _ _ _ _ _ _ _ _ _ h; exact absurd h (Nat.not_lt_zero _)
  | succ N ih =>
    intro w k n d rest cap a b limit hN hR hn hab hb hsz hlimit hBel0
    have HR := Lib.hid hR
    have HBel0 := Lib.hid hBel0
    have HN := Lib.hid hn
    clear hR hBel0 hn
    go_enter Tryz.func132, Tryz.ntmps132
    go_wp2_with fail
    go_loopw [1, 2, 3, 8, 9] (fun s1 s2 s3 s8 s9 wr => ∃ (a' b' lim : Nat) (wb wp : Bool) (dk : Array Int), s1 = .int .i64 a' ∧ s2 = .int .i64 b' ∧ s3 = .int .i64 lim ∧ s8 = .bool wb ∧ s9 = .bool wp ∧
      a' ≤ b' ∧ b' ≤ n ∧ b' - a' ≤ b - a ∧ lim ≤ limit ∧ dk.size = n ∧ Below ltInt a' b' dk ∧ RowU wr k dk rest ∧ Keep (fun x => x = k) w wr ∧ pdq ltInt dk a' b' lim wb wp = pdq ltInt d a b limit true true) (fun s1 s2 _ _ _ _ => (intOf s2).toNat - (intOf s1).toNat)
    case atStart => exact ⟨a, b, limit, true, true, d, rfl, rfl, rfl, rfl, rfl, hab, hb, Nat.le_refl _, Nat.le_refl _, HN.out, HBel0.out, HR.out, Keep.refl _ _, rfl⟩
    case round =>
      obtain ⟨a', b', lim, wb, wp, dk, rfl, rfl, rfl, rfl, rfl, hab', hb', hk, hlim, hds, hBel, hRk, hKk, heq⟩ := hrel
      have A := Lib.hid heq
      have HRk := Lib.hid hRk
      have HKk := Lib.hid hKk
      have HBel := Lib.hid hBel
      clear heq hRk hKk hBel HR
      have hlw : IntKind.i64.wrap ((b' : Int) - (a' : Int)) = (b' : Int) - (a' : Int) := IntWalk.i64_in _ (by omega)
      by_cases h12 : b' - a' ≤ 12
      · have h12z : (b' : Int) - (a' : Int) ≤ 12 := by omega
        have hc := insort_u HRk.out cap a' b' hab' (by omega) (by omega)
        rw [hds] at hc
        have HC := Lib.hid hc
        clear hc
        go_wp2_with fail
        refine HC.out.mono ?_
        rintro e w1 ⟨rfl, hw1, hk1⟩
        have HW1 := Lib.hid hw1
        have HK1 := Lib.hid (HKk.out.trans hk1)
        clear hw1 hk1
        go_wp2_with fail
        first | go_end0 | go_returns
        refine ⟨rfl, ?_, HK1.out⟩
        rw [← A.out, pdq_small h12]
        exact HW1.out
      · have h12z : ¬ ((b' : Int) - (a' : Int) ≤ 12) := by omega
        by_cases hl0 : lim = 0
        · subst hl0
          have hc := heap_u HRk.out cap a' b' hab' (by omega) (by omega)
          rw [hds] at hc
          have HC := Lib.hid hc
          clear hc
          go_wp2_with fail
          refine HC.out.mono ?_
          rintro e w1 ⟨rfl, hw1, hk1⟩
          have HW1 := Lib.hid hw1
          have HK1 := Lib.hid (HKk.out.trans hk1)
          clear hw1 hk1
          go_wp2_with fail
          first | go_end0 | go_returns
          refine ⟨rfl, ?_, HK1.out⟩
          rw [← A.out, pdq_heap h12 rfl]
          exact HW1.out
        · have hl0z : ¬ ((lim : Int) = 0) := by omega
          obtain ⟨s1, B1, hc1, s2, B2, hpv, s3, B3⟩ := rd_facts (limit := lim) (wb := wb) (wp := wp) swo_ltInt partialInsertionSort_holds reverseRange_holds (show a' < b' by omega) (show b' ≤ dk.size by omega) HBel.out
          have HB3 := Lib.hid B3
          have e1 := s1.trans hds
          have e2' := s2.trans hds
          have e3 := s3.trans hds
          have E1 := Lib.hid e1
          have E2 := Lib.hid e2'
          have E3 := Lib.hid e3
          clear s1 s2 s3 B1 B2 B3 e1 e2' e3
          go_upto_if 35 with fail
          go_cut [3] from 19 (fun s3 wc => s3 = .int .i64 (rd ltInt dk a' b' lim wb wp).lim ∧ RowU wc k (rd ltInt dk a' b' lim wb wp).d1 rest ∧ Keep (fun x => x = k) w wc)
          case first =>
            cases wb
            · have hc := break_u HRk.out cap a' b' (by omega) (by omega) (by omega)
              rw [hds] at hc
              have HC := Lib.hid hc
              clear hc
              have hlw2 : IntKind.i64.wrap ((lim : Int) - 1) = (lim : Int) - 1 := IntWalk.i64_in _ (by omega)
              go_wp2_with fail
              refine HC.out.mono ?_
              rintro e w1 ⟨rfl, hw1, hk1⟩
              have HW1 := Lib.hid hw1
              have HK1 := Lib.hid (HKk.out.trans hk1)
              clear hw1 hk1
              go_wp2_with fail
              go_meet
              case rel =>
                refine ⟨?_, HW1.out, HK1.out⟩
                show Value.int .i64 ((lim : Int) - 1) = Value.int .i64 ((lim - 1 : Nat) : Int)
                congr 1
                omega
            · go_wp2_with fail
              go_meet
              case rel => exact ⟨rfl, HRk.out, HKk.out⟩
          case rest =>
            obtain ⟨rfl, hR1, hK1⟩ := hcut
            have HR1 := Lib.hid hR1
            have HK1 := Lib.hid hK1
            clear hR1 hK1
            have hc17 : Calls Tryz.prog 145 #[.slice (some ⟨k, 0, none⟩) n cap, .int .i64 a', .int .i64 b'] wc fun e w' => e = .returned (.tuple #[.int .i64 (rd ltInt dk a' b' lim wb wp).c.1, .int .i64 (hintI (rd ltInt dk a' b' lim wb wp).c.2)]) ∧ Below wc.heap.size wc w' := by
              have := pivot_u HR1.out cap a' b' (by omega) (by rw [E1.out]; exact hb') (by rw [E1.out]; omega)
              rw [E1.out] at this
              exact this
            have HC17 := Lib.hid hc17
            clear hc17
            go_upto_if 50 with (go_at_call 145; refine HC17.out.mono ?_; rintro e w2 ⟨rfl, hw2⟩)
            have HR2 := Lib.hid (HR1.out.keep (Below.keep0 (fun _ => False) hw2) (fun h => h))
            have HK2 := Lib.hid (HK1.out.trans (Below.keep0 (fun x => x = k) hw2))
            clear hw2
            go_cut [11, 12] from 19 (fun s11 s12 wc => s11 = .int .i64 (rd ltInt dk a' b' lim wb wp).pivot ∧ s12 = .int .i64 (hintI (rd ltInt dk a' b' lim wb wp).hint) ∧ RowU wc k (rd ltInt dk a' b' lim wb wp).d2 rest ∧ Keep (fun x => x = k) w wc)
            case first =>
              by_cases hh : (rd ltInt dk a' b' lim wb wp).c.2 = .decreasing
              · have hcode : hintI (rd ltInt dk a' b' lim wb wp).c.2 = 2 := by rw [hh]; rfl
                obtain ⟨e2, epv, eht⟩ := rd_dec hh
                have hc18 := rev_u HR2.out cap a' b' (by omega) (by rw [E1.out]; exact hb') (by rw [E1.out]; omega)
                rw [E1.out] at hc18
                have HC18 := Lib.hid hc18
                have EP := Lib.hid epv
                have EH := Lib.hid eht
                have E22 := Lib.hid e2
                have hq1 : IntKind.i64.wrap ((b' : Int) - 1) = (b' : Int) - 1 := IntWalk.i64_in _ (by omega)
                have hq2 : IntKind.i64.wrap (((rd ltInt dk a' b' lim wb wp).c.1 : Int) - (a' : Int)) = ((rd ltInt dk a' b' lim wb wp).c.1 : Int) - (a' : Int) := IntWalk.i64_in _ (by omega)
                have hq3 : IntKind.i64.wrap ((b' : Int) - 1 - (((rd ltInt dk a' b' lim wb wp).c.1 : Int) - (a' : Int))) = (b' : Int) - 1 - (((rd ltInt dk a' b' lim wb wp).c.1 : Int) - (a' : Int)) := IntWalk.i64_in _ (by omega)
                clear hc18 epv eht e2 hh
                go_wp2_with fail
                refine HC18.out.mono ?_
                rintro e w3 ⟨rfl, hw3, hk3⟩
                have HW3 := Lib.hid hw3
                have HK3 := Lib.hid (HK2.out.trans hk3)
                clear hw3 hk3
                go_wp2_with fail
                go_meet
                case rel =>
                  refine ⟨?_, by rw [EH.out]; rfl, by rw [E22.out]; exact HW3.out, HK3.out⟩
                  rw [EP.out]
                  congr 1
                  omega
              · have hcode : ¬ (hintI (rd ltInt dk a' b' lim wb wp).c.2 = 2) := fun h => hh (hintI_two h)
                obtain ⟨e2, epv, eht⟩ := rd_not hh
                have EP := Lib.hid epv
                have EH := Lib.hid eht
                have E22 := Lib.hid e2
                clear epv eht e2 hh
                go_wp2_with fail
                go_meet
                case rel => exact ⟨by rw [EP.out], by rw [EH.out], by rw [E22.out]; exact HR2.out, HK2.out⟩
            case rest =>
              obtain ⟨rfl, rfl, hR3, hK3⟩ := hcut
              have HR3 := Lib.hid hR3
              have HK3 := Lib.hid hK3
              clear hR3 hK3
              go_upto_region 15 with fail
              go_cut [12, 68] from 19 (fun s12 s68 wx => s12 = .int .i64 (hintI (rd ltInt dk a' b' lim wb wp).hint) ∧ s68 = .bool (wb && wp && decide ((rd ltInt dk a' b' lim wb wp).hint = .increasing)) ∧ wx = wc)
              case first =>
                cases wb <;> cases wp <;> cases hh3 : (rd ltInt dk a' b' lim _ _).hint <;>
                  (have hcode3 := congrArg hintI hh3
                   simp only [hintI] at hcode3
                   go_wp2_with fail
                   go_meet
                   exact ⟨by simp [hh3, hintI], by simp [hh3, hintI], rfl⟩)
              case rest =>
                obtain ⟨rfl, rfl, rfl⟩ := hcut
                go_upto_if 68 with fail
                go_cut [] from 19 (fun wx => (rd ltInt dk a' b' lim wb wp).pi.2 = false ∧ RowU wx k (rd ltInt dk a' b' lim wb wp).pi.1 rest ∧ Keep (fun x => x = k) w wx)
                case first =>
                  cases h68 : (wb && wp && decide ((rd ltInt dk a' b' lim wb wp).hint = .increasing))
                  · have epi := rd_pi_no h68
                    have EPI := Lib.hid epi
                    clear epi
                    go_wp2_with fail
                    go_meet
                    case rel => exact ⟨by rw [EPI.out], by rw [EPI.out]; exact HR3.out, HK3.out⟩
                  · have epi := rd_pi_yes h68
                    have hc19 := partial_u HR3.out cap a' b' (by omega) (by rw [E2.out]; exact hb') (by rw [E2.out]; omega)
                    rw [E2.out, ← epi] at hc19
                    have EPI := Lib.hid epi
                    have HC19 := Lib.hid hc19
                    clear epi hc19
                    cases hp2 : (rd ltInt dk a' b' lim wb wp).pi.2
                    · have HP2 := Lib.hid hp2
                      rw [hp2] at HC19
                      clear hp2
                      go_wp2_with fail
                      refine HC19.out.mono ?_
                      rintro e w4 ⟨rfl, hw4, hk4⟩
                      have HD4 := Lib.hid hw4
                      have HE4 := Lib.hid hk4
                      clear hw4 hk4
                      go_wp2_with fail
                      go_meet
                      case rel => exact ⟨HP2.out, HD4.out, HK3.out.trans HE4.out⟩
                    · have HP2 := Lib.hid hp2
                      rw [hp2] at HC19
                      clear hp2
                      go_wp2_with fail
                      refine HC19.out.mono ?_
                      rintro e w4 ⟨rfl, hw4, hk4⟩
                      have HD4 := Lib.hid hw4
                      have HE4 := Lib.hid hk4
                      clear hw4 hk4
                      go_wp2_with fail
                      first | go_end0 | go_returns | (refine bodyPost_ret (results_none rfl _ _ _) rfl ?_)
                      refine ⟨rfl, ?_, HK3.out.trans HE4.out⟩
                      rw [← A.out, pdq_done h12 hl0 HP2.out]
                      exact HD4.out
                case rest =>
                  obtain ⟨hp2, hR5, hK5⟩ := hcut
                  have HP2 := Lib.hid hp2
                  have HR5 := Lib.hid hR5
                  have HK5 := Lib.hid hK5
                  clear hp2 hR5 hK5 HR3 HK3 HR2 HK2 HR1 HK1
                  go_upto_region 17 with fail
                  go_cut [87] from 19 (fun s87 wx => s87 = .bool (decide (a' > 0) && !ltInt (rd ltInt dk a' b' lim wb wp).pi.1[a' - 1]! (rd ltInt dk a' b' lim wb wp).pi.1[(rd ltInt dk a' b' lim wb wp).pivot]!) ∧ RowU wx k (rd ltInt dk a' b' lim wb wp).pi.1 rest ∧ Keep (fun x => x = k) w wx)
                  case first =>
                    rcases Nat.eq_zero_or_pos a' with ha0 | ha0
                    · have ha0z : decide ((a' : Int) > 0) = false := decide_eq_false (by omega)
                      have ha0y : decide (0 < (a' : Int)) = false := ha0z
                      have ha0v : ¬ (0 < a') := by omega
                      have ha0w : decide (0 < a') = false := decide_eq_false ha0v
                      have ha0u : ¬ (0 < (a' : Int)) := by omega
                      have HA0 := Lib.hid ha0
                      clear ha0
                      go_quiet (fail)
                      go_wp2_with fail
                      go_meet
                      case rel => exact ⟨by simp [HA0.out], HR5.out.drewN _, HK5.out.drewN _⟩
                    · obtain ⟨a1, ha1⟩ : ∃ a1, a1 = a' - 1 := ⟨_, rfl⟩
                      have ha0z : (0 : Int) < (a' : Int) := by omega
                      obtain ⟨x, hx⟩ : ∃ x, x = (rd ltInt dk a' b' lim wb wp).pi.1[a1]! := ⟨_, rfl⟩
                      obtain ⟨y, hy⟩ : ∃ x, x = (rd ltInt dk a' b' lim wb wp).pi.1[(rd ltInt dk a' b' lim wb wp).pivot]! := ⟨_, rfl⟩
                      obtain ⟨cx, fx⟩ := HR5.out.cell (i := a1) (by rw [E3.out]; omega)
                      obtain ⟨cy, fy⟩ := HR5.out.cell (i := (rd ltInt dk a' b' lim wb wp).pivot) (by rw [E3.out]; omega)
                      rw [← hx] at cx
                      rw [← hy] at cy
                      have HA1 := Lib.hid ha1
                      have HX := Lib.hid hx
                      have HY := Lib.hid hy
                      have ha0n : 0 < a' := ha0
                      have hai : (a' : Int) - 1 = (a1 : Int) := by omega
                      have haw : IntKind.i64.wrap ((a' : Int) - 1) = (a1 : Int) := by rw [hai]; exact IntWalk.i64_in _ (by omega)
                      have haw2 : IntKind.i64.wrap (a1 : Int) = (a1 : Int) := IntWalk.i64_in _ (by omega)
                      obtain ⟨xw, x0, xs, xn⟩ := idx (e := (a1 : Int)) (n := a1) (s := n) rfl (by omega) (by omega)
                      obtain ⟨yw, y0, ys, yn⟩ := idx (e := ((rd ltInt dk a' b' lim wb wp).pivot : Int)) (n := (rd ltInt dk a' b' lim wb wp).pivot) (s := n) rfl (by omega) (by omega)
                      have HA0 := Lib.hid ha0
                      clear ha0 ha1 hx hy
                      go_quiet (first | (go_at_call 148; first | exact quiet_same (less_u _ _ _) | exact quiet_same2 (less_u _ _ _)) | fail)
                      go_wp2_with fail
                      go_meet
                      case rel => exact ⟨by rw [show a' - 1 = a1 from HA1.out.symm, ← HX.out, ← HY.out]; simp [HA0.out], HR5.out.drewN _, HK5.out.drewN _⟩
                  case rest =>
                    obtain ⟨rfl, hR6, hK6⟩ := hcut
                    have HR6 := Lib.hid hR6
                    have HK6 := Lib.hid hK6
                    clear hR6 hK6 HR5 HK5
                    cases h87 : (decide (a' > 0) && !ltInt (rd ltInt dk a' b' lim wb wp).pi.1[a' - 1]! (rd ltInt dk a' b' lim wb wp).pi.1[(rd ltInt dk a' b' lim wb wp).pivot]!)
                    · have H87 := Lib.hid h87
                      obtain ⟨mid, ap, d4, hx⟩ : ∃ mid ap d4, Sort.partition ltInt (rd ltInt dk a' b' lim wb wp).pi.1 a' b' (rd ltInt dk a' b' lim wb wp).pivot = (mid, ap, d4) := ⟨(Sort.partition ltInt (rd ltInt dk a' b' lim wb wp).pi.1 a' b' (rd ltInt dk a' b' lim wb wp).pivot).1, (Sort.partition ltInt (rd ltInt dk a' b' lim wb wp).pi.1 a' b' (rd ltInt dk a' b' lim wb wp).pivot).2.1, (Sort.partition ltInt (rd ltInt dk a' b' lim wb wp).pi.1 a' b' (rd ltInt dk a' b' lim wb wp).pivot).2.2, rfl⟩
                      obtain ⟨r1, r2, r3, r4, r5, r6, r7⟩ := round_part swo_ltInt (partition_holds ltInt) hpv.1 hpv.2 (show b' ≤ (rd ltInt dk a' b' lim wb wp).pi.1.size by rw [E3.out]; exact hb') HB3.out hx
                      have hc22 := part_u HR6.out cap a' b' (rd ltInt dk a' b' lim wb wp).pivot hpv.1 hpv.2 (by rw [E3.out]; exact hb') (by rw [E3.out]; omega)
                      rw [E3.out, hx] at hc22
                      have HX := Lib.hid hx
                      have HC22 := Lib.hid hc22
                      have e4 : d4.size = n := r3.trans E3.out
                      have E4 := Lib.hid e4
                      have H4 := Lib.hid r4
                      have H5 := Lib.hid r5
                      have H6 := Lib.hid r6
                      have H7 := Lib.hid r7
                      clear hx hc22 h87 e4 r3 r4 r5 r6 r7
                      go_upto_if 113 with (go_at_call 150; refine HC22.out.mono ?_; rintro e w7 ⟨rfl, hw7, hk7⟩)
                      have HR7 := Lib.hid hw7
                      have HK7 := Lib.hid (HK6.out.trans hk7)
                      clear hw7 hk7
                      have hpdq := pdq_holds (lt := ltInt) insertionSort_holds heapSort_holds partialInsertionSort_holds (partition_holds ltInt) (partitionEqual_holds ltInt) reverseRange_holds
                      have m1 : IntKind.i64.wrap ((mid : Int) + 1) = (mid : Int) + 1 := IntWalk.i64_in _ (by omega)
                      have m2 : IntKind.i64.wrap ((mid : Int) - (a' : Int)) = (mid : Int) - (a' : Int) := IntWalk.i64_in _ (by omega)
                      have m3 : IntKind.i64.wrap ((b' : Int) - (mid : Int)) = (b' : Int) - (mid : Int) := IntWalk.i64_in _ (by omega)
                      have hlL : (rd ltInt dk a' b' lim wb wp).lim ≤ lim := rd_lim_le
                      by_cases h4 : mid - a' < b' - mid
                      · have h4z : (mid : Int) - (a' : Int) < (b' : Int) - (mid : Int) := by omega
                        have HIH := Lib.hid (ih (w := w7) (d := d4) cap a' mid (rd ltInt dk a' b' lim wb wp).lim (by omega) HR7.out E4.out (by omega) (by omega) hsz (by omega) H4.out)
                        obtain ⟨pL, sL⟩ := hpdq swo_ltInt d4 a' mid (rd ltInt dk a' b' lim wb wp).lim true true (by omega) (by rw [E4.out]; omega) H4.out
                        have HPL := Lib.hid pL
                        have HBR := Lib.hid (H6.out _ pL sL).1
                        clear pL sL hpdq
                        go_wp2_with fail
                        refine HIH.out.mono ?_
                        rintro e w8 ⟨rfl, hw8, hk8⟩
                        have HR8 := Lib.hid hw8
                        have HK8 := Lib.hid (HK7.out.trans hk8)
                        clear hw8 hk8
                        go_wp2_with fail
                        go_roundw
                        case rel =>
                          refine ⟨mid + 1, b', (rd ltInt dk a' b' lim wb wp).lim, decide (mid - a' ≥ (b' - a') / 8), ap, pdq ltInt d4 a' mid (rd ltInt dk a' b' lim wb wp).lim true true, by first | rfl | go_num, rfl, rfl, ?_, rfl, by omega, by omega, by omega, by omega, by rw [HPL.out.1]; exact E4.out, HBR.out, HR8.out, HK8.out, ?_⟩
                          · first | exact congrArg Value.bool (eighth (by omega) (by omega)) | (congr 1; first | (rw [decide_eq_decide]; omega) | (symm; simp; omega))
                          · rw [← A.out, pdq_left h12 hl0 HP2.out H87.out (by rw [HX.out]; exact ⟨r1, r2⟩) (by rw [HX.out]; exact h4), HX.out]
                        case measure => (simp [intOf]; try omega)
                      · have h4z : ¬ ((mid : Int) - (a' : Int) < (b' : Int) - (mid : Int)) := by omega
                        have HIH := Lib.hid (ih (w := w7) (d := d4) cap (mid + 1) b' (rd ltInt dk a' b' lim wb wp).lim (by omega) HR7.out E4.out (by omega) (by omega) hsz (by omega) H5.out)
                        obtain ⟨pL, sL⟩ := hpdq swo_ltInt d4 (mid + 1) b' (rd ltInt dk a' b' lim wb wp).lim true true (by omega) (by rw [E4.out]; omega) H5.out
                        have HPL := Lib.hid pL
                        have HBR := Lib.hid (H7.out _ pL sL).1
                        clear pL sL hpdq
                        go_wp2_with fail
                        refine HIH.out.mono ?_
                        rintro e w8 ⟨rfl, hw8, hk8⟩
                        have HR8 := Lib.hid hw8
                        have HK8 := Lib.hid (HK7.out.trans hk8)
                        clear hw8 hk8
                        go_wp2_with fail
                        go_roundw
                        case rel =>
                          refine ⟨a', mid, (rd ltInt dk a' b' lim wb wp).lim, decide (b' - mid ≥ (b' - a') / 8), ap, pdq ltInt d4 (mid + 1) b' (rd ltInt dk a' b' lim wb wp).lim true true, rfl, rfl, rfl, ?_, rfl, by omega, by omega, by omega, by omega, by rw [HPL.out.1]; exact E4.out, HBR.out, HR8.out, HK8.out, ?_⟩
                          · first | exact congrArg Value.bool (eighth (by omega) (by omega)) | (congr 1; first | (rw [decide_eq_decide]; omega) | (symm; simp; omega))
                          · rw [← A.out, pdq_right h12 hl0 HP2.out H87.out (by rw [HX.out]; exact ⟨r1, r2⟩) (by rw [HX.out]; exact h4), HX.out]
                        case measure => (simp [intOf]; try omega)
                    · have H87 := Lib.hid h87
                      have h87' := h87
                      simp only [Bool.and_eq_true, decide_eq_true_eq, Bool.not_eq_true'] at h87'
                      obtain ⟨mid, d4, hx⟩ : ∃ mid d4, Sort.partitionEqual ltInt (rd ltInt dk a' b' lim wb wp).pi.1 a' b' (rd ltInt dk a' b' lim wb wp).pivot = (mid, d4) := ⟨(Sort.partitionEqual ltInt (rd ltInt dk a' b' lim wb wp).pi.1 a' b' (rd ltInt dk a' b' lim wb wp).pivot).1, (Sort.partitionEqual ltInt (rd ltInt dk a' b' lim wb wp).pi.1 a' b' (rd ltInt dk a' b' lim wb wp).pivot).2, rfl⟩
                      obtain ⟨r1, r2, r3, r4, _⟩ := round_eq swo_ltInt (partitionEqual_holds ltInt) h87'.1 hpv.1 hpv.2 (show b' ≤ (rd ltInt dk a' b' lim wb wp).pi.1.size by rw [E3.out]; exact hb') HB3.out h87'.2 hx
                      have hc21 := parteq_u HR6.out cap a' b' (rd ltInt dk a' b' lim wb wp).pivot hpv.1 hpv.2 (by rw [E3.out]; exact hb') (by rw [E3.out]; omega)
                      rw [E3.out, hx] at hc21
                      have HX := Lib.hid hx
                      have HC21 := Lib.hid hc21
                      have e4 : d4.size = n := r3.trans E3.out
                      have H4 := Lib.hid r4
                      have hlL : (rd ltInt dk a' b' lim wb wp).lim ≤ lim := rd_lim_le
                      clear hx hc21 h87 h87' r3 r4
                      go_wp2_with fail
                      refine HC21.out.mono ?_
                      rintro e w7 ⟨rfl, hw7, hk7⟩
                      have HR7 := Lib.hid hw7
                      have HK7 := Lib.hid (HK6.out.trans hk7)
                      clear hw7 hk7
                      go_wp2_with fail
                      go_roundw
                      case rel => exact ⟨mid, b', (rd ltInt dk a' b' lim wb wp).lim, wb, wp, d4, rfl, rfl, rfl, rfl, rfl, r2, hb', by omega, by omega, e4, H4.out, HR7.out, HK7.out, by rw [← A.out, pdq_eq h12 hl0 HP2.out H87.out (by rw [HX.out]; exact ⟨r1, r2⟩), HX.out]⟩
                      case measure => (simp [intOf]; try omega)
end Go.Proofs.YtgmdedkingampaaGreat

namespace Go.Proofs.YtgmdedkingampaaGreat
open Go.ChangeShapes Go.WideShapes Go.ChangeAt Go.RowKit Go.Sort
set_option maxRecDepth 100000
set_option linter.unusedVariables false
set_option linter.unusedSimpArgs false

theorem len_u (n : Nat) (hn : n < 1000000) (w : World) : Calls Tryz.prog 133 #[.int .u64 n] w fun e w' => e = .returned (.int .i64 (bitsLen n)) ∧ w = w' :=
  (calls_of_every_depth fun D => AnySM.bits_LenIn (ρ := Tryz.npowA_ren) { Tryz.npowA with } D (n : Int) w (by omega) (by omega)).mono fun _ _ ⟨h1, h2⟩ => ⟨by rw [h1, Int.toNat_natCast, bitLen_eq _ (by omega)], h2.symm⟩
theorem RowU.of_own {w : World} {base g n c : Nat} {xs : List Int} (h : w.ownsRow base 39 1 (.slice (some ⟨g, 0, none⟩) n c) n (xs.map (Value.int .u64))) : ∃ rest, RowU w g xs.toArray rest ∧ xs.length = n ∧ rest.length + n = c ∧ c ≤ maxLen ∧ base ≤ g := by
  obtain ⟨h1, h2⟩ := h
  rcases h2 with ⟨hn, _⟩ | ⟨g', cap, cur, hv, hb, hg, hnc, hcm, hcs, htake⟩
  · cases hn
  · cases hv
    refine ⟨cur.toList.drop n, ?_, by simp at h1; omega, by simp; omega, hcm, hb⟩
    unfold RowU
    rw [hg]
    congr 2
    apply Array.toList_inj.1
    simp only [List.toList_toArray]
    rw [Nat.mul_one] at htake
    rw [← htake, List.take_append_drop]
theorem RowU.to_own {w : World} {base g n c : Nat} {d : Array Int} {rest : List Value} (h : RowU w g d rest) (hn : d.size = n) (hc : rest.length + n = c) (hm : c ≤ maxLen) (hb : base ≤ g) : w.ownsRow base 39 1 (.slice (some ⟨g, 0, none⟩) n c) n (d.toList.map (Value.int .u64)) := by
  refine ⟨by simp [hn], Or.inr ⟨g, c, _, rfl, hb, h, by omega, hm, by simp; omega, ?_⟩⟩
  simp only [List.toList_toArray, Nat.mul_one]
  rw [List.take_append_of_le_length (by simp; omega), List.take_of_length_le (by simp; omega)]

set_option maxHeartbeats 1000000 in
theorem sort_u {w : World} {base g n c : Nat} {xs : List Int} (h : w.ownsRow base 39 1 (.slice (some ⟨g, 0, none⟩) n c) n (xs.map (Value.int .u64))) (hn : n < 1000000) :
    Calls Tryz.prog 111 #[.slice (some ⟨g, 0, none⟩) n c] w fun e w' => e = .returned (.tuple #[]) ∧ w'.ownsRow base 39 1 (.slice (some ⟨g, 0, none⟩) n c) n ((xs.mergeSort (fun x y => decide (x ≤ y))).map (Value.int .u64)) ∧ Keep (fun x => x = g) w w' := by
  obtain ⟨rest, hR, hxl, hrl, hcm, hbg⟩ := RowU.of_own h
  have hk : bitsLen n ≤ 20 := (bitsLen_le_iff n 20).2 (by omega)
  have hP := pdq_u (n + 1) (w := w) (d := xs.toArray) c 0 n (bitsLen n) (by omega) hR (by simpa using hxl) (by omega) (Nat.le_refl _) hn (by omega) (Or.inl rfl)
  have hsort := sortInt xs
  unfold Sort.sort at hsort
  rw [show xs.toArray.size = n by simpa using hxl] at hsort
  have hsz : (pdq ltInt xs.toArray 0 n (bitsLen n) true true).size = n := by
    have := congrArg List.length hsort
    simp only [Array.length_toList, List.length_mergeSort] at this
    omega
  have HP := Lib.hid hP
  have HS := Lib.hid hsort
  have HL := Lib.hid (fun w => len_u n (by omega) w)
  have hLu : IntKind.u64.wrap (n : Int) = (n : Int) := IntWalk.u64_in _ (by omega)
  clear h hR hxl hP hsort
  go_enter Tryz.func111, Tryz.ntmps111
  go_wp2_with fail
  refine (HL.out _).mono ?_
  rintro e w' ⟨rfl, rfl⟩
  go_wp2_with fail
  refine HP.out.mono ?_
  rintro e w1 ⟨rfl, hw1, hk1⟩
  have HW1 := Lib.hid hw1
  have HK1 := Lib.hid hk1
  clear hw1 hk1
  go_wp2_with fail
  go_end0
  have := RowU.to_own HW1.out hsz hrl hcm hbg
  rw [HS.out] at this
  exact ⟨rfl, this, HK1.out⟩
theorem insort_nil (p : Option Addr) (cap : Nat) (w : World) : Calls Tryz.prog 142 #[.slice p 0 cap, .int .i64 0, .int .i64 0] w fun e w' => e = .returned (.tuple #[]) ∧ w = w' := by
  go_enter Tryz.func142, Tryz.ntmps142
  go_wp2_with fail
  go_loopw [6] (fun v wr => v = .int .i64 1 ∧ w = wr) (fun _ _ => 0)
  case atStart => exact ⟨rfl, rfl⟩
  case round =>
    obtain ⟨rfl, rfl⟩ := hrel
    go_wp2_with fail
    go_end0
    exact ⟨rfl, rfl⟩
theorem pdq_nil (p : Option Addr) (cap : Nat) (w : World) : Calls Tryz.prog 132 #[.slice p 0 cap, .int .i64 0, .int .i64 0, .int .i64 0] w fun e w' => e = .returned (.tuple #[]) ∧ w = w' := by
  go_enter Tryz.func132, Tryz.ntmps132
  go_wp2_with fail
  go_loopw [1, 2, 3, 8, 9] (fun s1 s2 s3 s8 s9 wr => s1 = .int .i64 0 ∧ s2 = .int .i64 0 ∧ s3 = .int .i64 0 ∧ s8 = .bool true ∧ s9 = .bool true ∧ w = wr) (fun _ _ _ _ _ _ => 0)
  case atStart => exact ⟨rfl, rfl, rfl, rfl, rfl, rfl⟩
  case round =>
    obtain ⟨rfl, rfl, rfl, rfl, rfl, rfl⟩ := hrel
    go_wp2_with fail
    refine (insort_nil p cap _).mono ?_
    rintro e w' ⟨rfl, rfl⟩
    go_wp2_with fail
    first | go_end0 | go_returns
    exact ⟨rfl, rfl⟩
theorem sort_nil (p : Option Addr) (cap : Nat) (w : World) : Calls Tryz.prog 111 #[.slice p 0 cap] w fun e w' => e = .returned (.tuple #[]) ∧ w = w' := by
  have HL := Lib.hid (fun w => len_u 0 (by omega) w)
  have h0 : bitsLen 0 = 0 := rfl
  rw [h0] at HL
  go_enter Tryz.func111, Tryz.ntmps111
  go_wp2_with fail
  refine (HL.out _).mono ?_
  rintro e w' ⟨rfl, rfl⟩
  go_wp2_with fail
  refine (pdq_nil p cap _).mono ?_
  rintro e w' ⟨rfl, rfl⟩
  go_wp2_with fail
  go_end0
  exact ⟨rfl, rfl⟩
end Go.Proofs.YtgmdedkingampaaGreat
