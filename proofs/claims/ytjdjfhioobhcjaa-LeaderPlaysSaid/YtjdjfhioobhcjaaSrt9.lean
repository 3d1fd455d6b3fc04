/-
  The library's sort at numbers of 64 bits without sign: few numbers tried in place.
-/
import Derived.Test.YtjdjfhioobhcjaaSrt8
namespace Go.Proofs.Ytjdjfhioobhcjaa
open Go.ChangeShapes Go.WideShapes Go.ChangeAt Go.RowKit Go.Sort
set_option maxRecDepth 100000

theorem fixDown_no {a k : Nat} {d : Array Int} (h : ¬ k - a ≥ 2) : fixDown ltInt a k d = d := by unfold fixDown; rw [if_neg h]
theorem fixDown_yes {a k : Nat} {d : Array Int} (h : k - a ≥ 2) : fixDown ltInt a k d = shiftDown ltInt (k - 1) d := by unfold fixDown; rw [if_pos h]
theorem fixUp_no {b k : Nat} {d : Array Int} (h : ¬ b - k ≥ 2) : fixUp ltInt b k d = d := by unfold fixUp; rw [if_neg h]
theorem fixUp_yes {b k : Nat} {d : Array Int} (h : b - k ≥ 2) : fixUp ltInt b k d = shiftUp ltInt b (k + 1) d := by unfold fixUp; rw [if_pos h]
theorem keep_dr {S : Nat → Prop} {a w w' : World} (h : Keep S a w) (hd : Drew w w') : Keep S a w' := by obtain ⟨n, rfl⟩ := hd; exact h.drewN n
theorem row_dr {w w' : World} {k : Nat} {d : Array Int} {rest : List Value} (h : RowU w k d rest) (hd : Drew w w') : RowU w' k d rest := by obtain ⟨n, rfl⟩ := hd; exact h
set_option maxHeartbeats 16000000 in
theorem partial_n {w : World} {k n : Nat} {d : Array Int} {rest : List Value} (h : RowU w k d rest) (hn : d.size = n) (cap a b : Nat) (hab : a + 12 < b) (hb : b ≤ n) (hsz : n < 1000000000000) :
    Calls Try.prog 99 #[.slice (some ⟨k, 0, none⟩) n cap, .int .i64 a, .int .i64 b] w fun e w' => e = .returned (.bool (Sort.partialInsertionSort ltInt d a b).2) ∧ RowU w' k (Sort.partialInsertionSort ltInt d a b).1 rest ∧ Keep (fun x => x = k) w w' := by
  have H := Lib.hid h
  have HN := Lib.hid hn
  clear h hn
  have HS : Hid (Sort.partialInsertionSort ltInt d a b = partialIns ltInt a b 5 (a + 1) d) := Lib.hid rfl
  have hbw : IntKind.i64.wrap ((b : Int) - (a : Int)) = (b : Int) - (a : Int) := IntWalk.i64_in _ (by omega)
  have haw : IntKind.i64.wrap ((a : Int) + 1) = (a : Int) + 1 := IntWalk.i64_in _ (by omega)
  go_enter Try.func99, Try.ntmps99
  go_wp2_with fail
  go_loopw [7, 8, 9, 10] (fun vi vj _ _ wr => ∃ (i s : Nat) (dk : Array Int), vi = .int .i64 i ∧ vj = .int .i64 s ∧ s ≤ 5 ∧ a < i ∧ i ≤ b ∧ dk.size = n ∧ RowU wr k dk rest ∧ Keep (fun x => x = k) w wr ∧ partialIns ltInt a b (5 - s) i dk = partialIns ltInt a b 5 (a + 1) d) (fun _ vj _ _ _ => 5 - (intOf vj).toNat)
  case atStart => exact ⟨a + 1, 0, d, by first | rfl | go_num, rfl, by omega, by omega, by omega, HN.out, H.out, Keep.refl _ _, rfl⟩
  case round =>
    obtain ⟨i, s, dk, rfl, rfl, hs5, hai, hib, hdk, hR, hK, hO⟩ := hrel
    have HR := Lib.hid hR
    have HK := Lib.hid hK
    have HO := Lib.hid hO
    have HDk := Lib.hid hdk
    clear hR hK hO hdk
    by_cases hs : s < 5
    rotate_left
    · have hs' : s = 5 := by omega
      subst hs'
      have hds : decide (((5 : Nat) : Int) < 5) = false := by decide
      go_wp2_with fail
      go_returns
      rw [HS.out, ← HO.out]
      exact ⟨by simp [partialIns], by simpa [partialIns] using HR.out, HK.out⟩
    · have hsi : (s : Int) < 5 := by omega
      have hsw : IntKind.i64.wrap ((s : Int) + 1) = (s : Int) + 1 := IntWalk.i64_in _ (by omega)
      go_wp2_with fail
      go_loopw [7] (fun vi wr2 => ∃ j : Nat, vi = .int .i64 j ∧ i ≤ j ∧ j ≤ b ∧ scanSorted ltInt dk b j = scanSorted ltInt dk b i ∧ Drew wr wr2) (fun vi _ => b - (intOf vi).toNat)
      case atStart => exact ⟨i, rfl, Nat.le_refl _, hib, rfl, Drew.refl _⟩
      case round =>
        obtain ⟨j, rfl, hij, hjb, hsc, hD⟩ := hrel
        have HSc := Lib.hid hsc
        have HR2 := Lib.hid (row_dr HR.out hD)
        have HK2 := Lib.hid (keep_dr HK.out hD)
        have HD2 := Lib.hid hD
        clear hD hsc
        by_cases hlt : j < b
        · have hlti : (j : Int) < (b : Int) := by omega
          obtain ⟨i', rfl⟩ : ∃ i', j = i' + 1 := ⟨j - 1, by omega⟩
          have hdk := HDk.out
          obtain ⟨x, hx⟩ : ∃ x, x = dk[i' + 1]! := ⟨_, rfl⟩
          obtain ⟨y, hy⟩ : ∃ x, x = dk[i']! := ⟨_, rfl⟩
          obtain ⟨cx, fx⟩ := HR2.out.cell (i := i' + 1) (by omega)
          obtain ⟨cy, fy⟩ := HR2.out.cell (i := i') (by omega)
          rw [← hx] at cx
          rw [← hy] at cy
          have HX := Lib.hid hx
          have HY := Lib.hid hy
          clear hx hy
          obtain ⟨xw, x0, xs, xn⟩ := idx (e := (i' : Int) + 1) (n := i' + 1) (s := n) (by omega) (by omega) (by omega)
          obtain ⟨yw, y0, ys, yn⟩ := idx (e := (i' : Int)) (n := i') (s := n) (by omega) (by omega) (by omega)
          have hwr2 : IntKind.i64.wrap ((i' : Int) + 1 - 1) = (i' : Int) := by rw [Int.add_sub_cancel]; exact yw
          clear hdk
          have hlt2 : (i' : Int) + 1 < (b : Int) := by omega
          have hiw2 : IntKind.i64.wrap ((i' : Int) + 1 + 1) = (i' : Int) + 1 + 1 := IntWalk.i64_in _ (by omega)
          go_wp2_with fail
          go_quiet (first | (go_at_call 100; first | exact quiet_same (less_u _ _ _) | exact quiet_same2 (less_u _ _ _)) | fail)
          cases hl : ltInt x y
          · have HL := Lib.hid hl
            clear hl
            go_wp2_with fail
            go_roundw
            case rel => exact ⟨i' + 2, by first | rfl | go_num, by omega, by omega, (by rw [← HSc.out]; exact (scanSorted_go ltInt dk b (i' + 1) hlt (by rw [Nat.add_sub_cancel, ← HX.out, ← HY.out]; exact HL.out)).symm), HD2.out.drewN _⟩
            case measure => (simp [intOf]; try omega)
          · have hk : scanSorted ltInt dk b i = i' + 1 := by rw [← HSc.out]; exact scanSorted_stop ltInt dk b (i' + 1) (Or.inr (by rw [Nat.add_sub_cancel, ← HX.out, ← HY.out]; exact hl))
            have HKk := Lib.hid hk
            have hne : ((i' : Int) + 1 == (b : Int)) = false := by rw [beq_eq_false_iff_ne]; omega
            clear hl hk
            by_cases h50 : b - a < 50
            · have h50i : (b : Int) - (a : Int) < 50 := by omega
              go_wp2_with fail
              go_returns
              have e : partialIns ltInt a b (5 - s) i dk = (dk, false) := pi_short ltInt a b s i dk hs (by rw [HKk.out]; omega) h50
              rw [HS.out, ← HO.out, e]
              exact ⟨rfl, HR2.out, HK2.out.drewN _⟩
            · have h50i : ¬ ((b : Int) - (a : Int) < 50) := by omega
              have HG := Lib.hid (pi_go ltInt a b s i (i' + 1) dk hs HKk.out (by omega) h50)
              rw [Nat.add_sub_cancel] at HG
              have hw1 := HR2.out.swap (i := i' + 1) (j := i') (by have := HDk.out; omega) (by have := HDk.out; omega)
              rw [← HX.out, ← HY.out] at hw1
              have HW1 := Lib.hid hw1
              have HS1 : Hid ((swp dk (i' + 1) i').size = n) := Lib.hid (by rw [size_swp]; exact HDk.out)
              clear hw1
              go_upto_region 11 with fail
              go_cut [7, 8] from 13 (fun s7 s8 wc => s7 = .int .i64 ((i' : Int) + 1) ∧ s8 = .int .i64 s ∧ RowU wc k (swp dk (i' + 1) i') rest ∧ Keep (fun x => x = k) w wc)
              case first =>
                go_region
                all_goals
                  go_wp2_with fail
                  go_meet
                  case rel => exact ⟨rfl, rfl, HW1.out, by first | exact keep_swap HK2.out _ _ _ _ | exact (keep_swap HK2.out _ _ _ _).drewN _ | exact keep_swap (HK2.out.drewN _) _ _ _ _⟩
              case rest =>
                obtain ⟨rfl, rfl, hR3, hK3⟩ := hcut
                have HR3 := Lib.hid hR3
                have HK3 := Lib.hid hK3
                clear hR3 hK3 HX HY HW1 cx cy fx fy HR2 HK2 HR HK
                generalize swp dk (i' + 1) i' = d1 at *
                have hwa : IntKind.i64.wrap ((i' : Int) + 1 - (a : Int)) = (i' : Int) + 1 - (a : Int) := IntWalk.i64_in _ (by omega)
                have hwb : IntKind.i64.wrap ((b : Int) - ((i' : Int) + 1)) = (b : Int) - ((i' : Int) + 1) := IntWalk.i64_in _ (by omega)
                go_upto_if 61 with fail
                go_cut [7, 8, 9] from 13 (fun s7 s8 _ wc => s7 = .int .i64 ((i' : Int) + 1) ∧ s8 = .int .i64 s ∧ (fixDown ltInt a (i' + 1) d1).size = n ∧ RowU wc k (fixDown ltInt a (i' + 1) d1) rest ∧ Keep (fun x => x = k) w wc)
                case first =>
                  by_cases h2 : i' + 1 - a ≥ 2
                  · have h2i : (2 : Int) ≤ (i' : Int) + 1 - (a : Int) := by omega
                    have HFd := Lib.hid (fixDown_yes (d := d1) h2)
                    rw [Nat.add_sub_cancel] at HFd
                    go_wp2_with fail
                    go_loopw [9] (fun vj wr2 => ∃ (j : Nat) (dj : Array Int), vj = .int .i64 j ∧ j ≤ i' ∧ dj.size = n ∧ RowU wr2 k dj rest ∧ Keep (fun x => x = k) w wr2 ∧ shiftDown ltInt j dj = shiftDown ltInt i' d1) (fun vj _ => (intOf vj).toNat)
                    case atStart => exact ⟨i', d1, rfl, Nat.le_refl _, HS1.out, HR3.out, HK3.out, rfl⟩
                    case round =>
                      obtain ⟨j, dj, rfl, hji, hdj, hR4, hK4, hsd⟩ := hrel
                      have HR4 := Lib.hid hR4
                      have HK4 := Lib.hid hK4
                      have HSd := Lib.hid hsd
                      have HDj := Lib.hid hdj
                      clear hR4 hK4 hsd
                      by_cases hj1 : 1 ≤ j
                      · obtain ⟨j', rfl⟩ : ∃ j', j = j' + 1 := ⟨j - 1, by omega⟩
                        obtain ⟨x, hx⟩ : ∃ x, x = dj[j' + 1]! := ⟨_, rfl⟩
                        obtain ⟨y, hy⟩ : ∃ x, x = dj[j']! := ⟨_, rfl⟩
                        obtain ⟨cx, fx⟩ := HR4.out.cell (i := j' + 1) (by omega)
                        obtain ⟨cy, fy⟩ := HR4.out.cell (i := j') (by omega)
                        rw [← hx] at cx
                        rw [← hy] at cy
                        have HX := Lib.hid hx
                        have HY := Lib.hid hy
                        clear hx hy
                        obtain ⟨xw, x0, xs, xn⟩ := idx (e := (j' : Int) + 1) (n := j' + 1) (s := n) (by omega) (by omega) (by omega)
                        obtain ⟨yw, y0, ys, yn⟩ := idx (e := (j' : Int)) (n := j') (s := n) (by omega) (by omega) (by omega)
                        have hwr2 : IntKind.i64.wrap ((j' : Int) + 1 - 1) = (j' : Int) := by rw [Int.add_sub_cancel]; exact yw
                        clear hdj
                        have hj1i : (1 : Int) ≤ (j' : Int) + 1 := by omega
                        go_wp2_with fail
                        go_quiet (first | (go_at_call 100; first | exact quiet_same (less_u _ _ _) | exact quiet_same2 (less_u _ _ _)) | fail)
                        cases hl : ltInt x y
                        · have hst : shiftDown ltInt i' d1 = dj := by rw [← HSd.out]; exact shiftDown_stop ltInt (j' + 1) dj (Or.inr (by rw [Nat.add_sub_cancel, ← HX.out, ← HY.out]; exact hl))
                          have HSt := Lib.hid hst
                          clear hl hst
                          go_wp2_with fail
                          go_meet
                          case rel => exact ⟨rfl, rfl, by rw [HFd.out, HSt.out]; exact HDj.out, by rw [HFd.out, HSt.out]; exact HR4.out.drewN _, by exact HK4.out.drewN _⟩
                        · have hgo := shiftDown_go ltInt (j' + 1) dj (by omega) (by rw [Nat.add_sub_cancel, ← HX.out, ← HY.out]; exact hl)
                          rw [Nat.add_sub_cancel] at hgo
                          have HGo := Lib.hid (hgo.symm.trans HSd.out)
                          have hw1 := HR4.out.swap (i := j' + 1) (j := j') (by have := HDj.out; omega) (by have := HDj.out; omega)
                          rw [← HX.out, ← HY.out] at hw1
                          have HW1 := Lib.hid hw1
                          clear hl hgo hw1
                          go_wp2_with fail
                          go_region
                          all_goals go_wp2_with fail
                          go_roundw
                          case rel => exact ⟨j', _, by first | rfl | go_num, by omega, by rw [size_swp]; exact HDj.out, HW1.out, by first | exact keep_swap HK4.out _ _ _ _ | exact (keep_swap HK4.out _ _ _ _).drewN _ | exact keep_swap (HK4.out.drewN _) _ _ _ _, HGo.out⟩
                          case measure => (simp [intOf]; try omega)
                      · have hj0 : j = 0 := by omega
                        subst hj0
                        have hst : shiftDown ltInt i' d1 = dj := by rw [← HSd.out]; exact shiftDown_stop ltInt 0 dj (Or.inl rfl)
                        have HSt := Lib.hid hst
                        have hj1i : decide (1 ≤ ((0 : Nat) : Int)) = false := by decide
                        clear hst
                        go_wp2_with fail
                        go_meet
                        case rel => exact ⟨rfl, rfl, by rw [HFd.out, HSt.out]; exact HDj.out, by rw [HFd.out, HSt.out]; exact HR4.out, HK4.out⟩
                  · have h2i : ¬ ((2 : Int) ≤ (i' : Int) + 1 - (a : Int)) := by omega
                    have HFd := Lib.hid (fixDown_no (d := d1) h2)
                    go_wp2_with fail
                    go_meet
                    case rel => exact ⟨rfl, rfl, by rw [HFd.out]; exact HS1.out, by rw [HFd.out]; exact HR3.out, HK3.out⟩
                case rest =>
                  obtain ⟨rfl, rfl, hd2, hR4, hK4⟩ := hcut
                  have HR4 := Lib.hid hR4
                  have HK4 := Lib.hid hK4
                  clear hR4 hK4
                  generalize fixDown ltInt a (i' + 1) d1 = d2 at *
                  have HD2' := Lib.hid hd2
                  clear hd2 HR3 HK3 HS1
                  by_cases h2 : b - (i' + 1) ≥ 2
                  · have h2i : (2 : Int) ≤ (b : Int) - ((i' : Int) + 1) := by omega
                    have HFu := Lib.hid (fixUp_yes (d := d2) h2)
                    have hiw2 : IntKind.i64.wrap ((i' : Int) + 1 + 1) = (i' : Int) + 1 + 1 := IntWalk.i64_in _ (by omega)
                    go_wp2_with fail
                    go_loopw [10] (fun vj wr2 => ∃ (j : Nat) (dj : Array Int), vj = .int .i64 j ∧ i' + 2 ≤ j ∧ j ≤ b ∧ dj.size = n ∧ RowU wr2 k dj rest ∧ Keep (fun x => x = k) w wr2 ∧ shiftUp ltInt b j dj = shiftUp ltInt b (i' + 1 + 1) d2) (fun vj _ => b - (intOf vj).toNat)
                    case atStart => exact ⟨i' + 2, d2, by first | rfl | go_num, Nat.le_refl _, by omega, HD2'.out, HR4.out, HK4.out, rfl⟩
                    case round =>
                      obtain ⟨j, dj, rfl, hji, hjb2, hdj, hR5, hK5, hsu⟩ := hrel
                      have HR5 := Lib.hid hR5
                      have HK5 := Lib.hid hK5
                      have HSu := Lib.hid hsu
                      have HDj := Lib.hid hdj
                      clear hR5 hK5 hsu
                      by_cases hjb3 : j < b
                      · obtain ⟨j', rfl⟩ : ∃ j', j = j' + 1 := ⟨j - 1, by omega⟩
                        obtain ⟨x, hx⟩ : ∃ x, x = dj[j' + 1]! := ⟨_, rfl⟩
                        obtain ⟨y, hy⟩ : ∃ x, x = dj[j']! := ⟨_, rfl⟩
                        obtain ⟨cx, fx⟩ := HR5.out.cell (i := j' + 1) (by omega)
                        obtain ⟨cy, fy⟩ := HR5.out.cell (i := j') (by omega)
                        rw [← hx] at cx
                        rw [← hy] at cy
                        have HX := Lib.hid hx
                        have HY := Lib.hid hy
                        clear hx hy
                        obtain ⟨xw, x0, xs, xn⟩ := idx (e := (j' : Int) + 1) (n := j' + 1) (s := n) (by omega) (by omega) (by omega)
                        obtain ⟨yw, y0, ys, yn⟩ := idx (e := (j' : Int)) (n := j') (s := n) (by omega) (by omega) (by omega)
                        have hwr2 : IntKind.i64.wrap ((j' : Int) + 1 - 1) = (j' : Int) := by rw [Int.add_sub_cancel]; exact yw
                        clear hdj
                        have hj1i : (j' : Int) + 1 < (b : Int) := by omega
                        have hjw2 : IntKind.i64.wrap ((j' : Int) + 1 + 1) = (j' : Int) + 1 + 1 := IntWalk.i64_in _ (by omega)
                        go_wp2_with fail
                        go_quiet (first | (go_at_call 100; first | exact quiet_same (less_u _ _ _) | exact quiet_same2 (less_u _ _ _)) | fail)
                        cases hl : ltInt x y
                        · have hst : shiftUp ltInt b (i' + 1 + 1) d2 = dj := by rw [← HSu.out]; exact shiftUp_stop ltInt b (j' + 1) dj (Or.inr (by rw [Nat.add_sub_cancel, ← HX.out, ← HY.out]; exact hl))
                          have HSt := Lib.hid hst
                          clear hl hst
                          go_wp2_with fail
                          go_roundw
                          case rel => exact ⟨i' + 1, s + 1, dj, by first | rfl | go_num, by first | rfl | go_num, by omega, by omega, by omega, HDj.out, HR5.out.drewN _, HK5.out.drewN _, by rw [← HO.out, HG.out, HFu.out, HSt.out]⟩
                          case measure => (simp [intOf]; try omega)
                        · have hgo := shiftUp_go ltInt b (j' + 1) dj (by omega) (by rw [Nat.add_sub_cancel, ← HX.out, ← HY.out]; exact hl)
                          rw [Nat.add_sub_cancel] at hgo
                          have HGo := Lib.hid (hgo.symm.trans HSu.out)
                          have hw1 := HR5.out.swap (i := j' + 1) (j := j') (by have := HDj.out; omega) (by have := HDj.out; omega)
                          rw [← HX.out, ← HY.out] at hw1
                          have HW1 := Lib.hid hw1
                          clear hl hgo hw1
                          go_wp2_with fail
                          go_region
                          all_goals go_wp2_with fail
                          go_roundw
                          case rel => exact ⟨j' + 2, _, by first | rfl | go_num, by omega, by omega, by rw [size_swp]; exact HDj.out, HW1.out, by first | exact keep_swap HK5.out _ _ _ _ | exact (keep_swap HK5.out _ _ _ _).drewN _ | exact keep_swap (HK5.out.drewN _) _ _ _ _, HGo.out⟩
                          case measure => (simp [intOf]; try omega)
                      · have hj0 : j = b := by omega
                        subst hj0
                        have hst : shiftUp ltInt j (i' + 1 + 1) d2 = dj := by rw [← HSu.out]; exact shiftUp_stop ltInt j j dj (Or.inl hjb3)
                        have HSt := Lib.hid hst
                        have hj1i : decide ((j : Int) < (j : Int)) = false := decide_eq_false (by omega)
                        clear hst
                        go_wp2_with fail
                        go_roundw
                        case rel => exact ⟨i' + 1, s + 1, dj, by first | rfl | go_num, by first | rfl | go_num, by omega, by omega, by omega, HDj.out, HR5.out, HK5.out, by rw [← HO.out, HG.out, HFu.out, HSt.out]⟩
                        case measure => (simp [intOf]; try omega)
                  · have h2i : ¬ ((2 : Int) ≤ (b : Int) - ((i' : Int) + 1)) := by omega
                    have HFu := Lib.hid (fixUp_no (d := d2) h2)
                    go_wp2_with fail
                    go_roundw
                    case rel => exact ⟨i' + 1, s + 1, d2, by first | rfl | go_num, by first | rfl | go_num, by omega, by omega, by omega, HD2'.out, HR4.out, HK4.out, by rw [← HO.out, HG.out, HFu.out]⟩
                    case measure => (simp [intOf]; try omega)
        · have hib2 : j = b := by omega
          subst hib2
          have hk : scanSorted ltInt dk j i = j := by rw [← HSc.out]; exact scanSorted_stop ltInt dk j j (Or.inl hlt)
          have HKk := Lib.hid hk
          have hlti : ¬ ((j : Int) < (j : Int)) := by omega
          clear hk
          go_wp2_with fail
          go_quiet (fail)
          go_wp2_with fail
          go_returns
          have e : partialIns ltInt a j (5 - s) i dk = (dk, true) := pi_true ltInt a j s i dk hs HKk.out
          rw [HS.out, ← HO.out, e]
          exact ⟨rfl, HR2.out, HK2.out.drewN _⟩
theorem partial_u {w : World} {k : Nat} {d : Array Int} {rest : List Value} (h : RowU w k d rest) (cap a b : Nat) (hab : a + 12 < b) (hb : b ≤ d.size) (hsz : d.size < 1000000000000) :
    Calls Try.prog 99 #[.slice (some ⟨k, 0, none⟩) d.size cap, .int .i64 a, .int .i64 b] w fun e w' => e = .returned (.bool (Sort.partialInsertionSort ltInt d a b).2) ∧ RowU w' k (Sort.partialInsertionSort ltInt d a b).1 rest ∧ Keep (fun x => x = k) w w' := partial_n h rfl cap a b hab hb hsz
end Go.Proofs.Ytjdjfhioobhcjaa
