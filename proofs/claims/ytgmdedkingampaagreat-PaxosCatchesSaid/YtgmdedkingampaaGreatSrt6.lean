/-
  The library's sort at numbers of 64 bits without sign: partition, by what is equal.
-/
import Derived.Test.YtgmdedkingampaaGreatSrt5
import Derived.Sort.WalkC4
import Derived.Sort.WalkC
set_option linter.unusedVariables false
set_option linter.unusedSimpArgs false
namespace Go.Proofs.YtgmdedkingampaaGreat
open Go.ChangeShapes Go.WideShapes Go.ChangeAt Go.RowKit Go.Sort
set_option maxRecDepth 100000

set_option maxHeartbeats 16000000 in
theorem part_u {w : World} {k : Nat} {d : Array Int} {rest : List Value} (h : RowU w k d rest) (cap a b p : Nat) (hap : a ≤ p) (hpb : p < b) (hb : b ≤ d.size) (hsz : d.size < 1000000000000) :
    Calls Tryz.prog 150 #[.slice (some ⟨k, 0, none⟩) d.size cap, .int .i64 a, .int .i64 b, .int .i64 p] w fun e w' => e = .returned (.tuple #[.int .i64 (Sort.partition ltInt d a b p).1, .bool (Sort.partition ltInt d a b p).2.1]) ∧ RowU w' k (Sort.partition ltInt d a b p).2.2 rest ∧ Keep (fun x => x = k) w w' := by
  have H := Lib.hid h
  clear h
  obtain ⟨x, hx⟩ : ∃ x, x = d[a]! := ⟨_, rfl⟩
  obtain ⟨cx, fx⟩ := H.out.cell (i := a) (by omega)
  rw [← hx] at cx
  have Gx := Lib.hid hx
  clear hx
  obtain ⟨xw, x0, xs, xn⟩ := idx (e := (a : Int)) (n := a) (s := d.size) (by first | rfl | omega) (by omega) hsz
  obtain ⟨y, hy⟩ : ∃ x, x = d[p]! := ⟨_, rfl⟩
  obtain ⟨cy, fy⟩ := H.out.cell (i := p) (by omega)
  rw [← hy] at cy
  have Gy := Lib.hid hy
  clear hy
  obtain ⟨yw, y0, ys, yn⟩ := idx (e := (p : Int)) (n := p) (s := d.size) (by first | rfl | omega) (by omega) hsz
  obtain ⟨cz, fz⟩ := (H.out.set (i := a) (by omega) y).cell (i := p) (by simp; omega)
  generalize (d.setIfInBounds a y)[p]! = z at cz
  obtain ⟨b', hb'⟩ : ∃ b', b = b' + 1 := ⟨b - 1, by omega⟩
  have hbw : IntKind.i64.wrap ((b : Int) - 1) = (b' : Int) := by rw [show (b : Int) - 1 = (b' : Int) by omega]; exact IntWalk.i64_in _ (by omega)
  have HB' := Lib.hid hb'
  have hb1 : b' < d.size := by omega
  have hb2 : a ≤ b' := by omega
  clear hb'
  have haw : IntKind.i64.wrap ((a : Int) + 1) = (a : Int) + 1 := IntWalk.i64_in _ (by omega)
  go_enter Tryz.func150, Tryz.ntmps150
  go_wp2_with fail
  go_region
  all_goals go_wp2_with fail
  have HR := Lib.hid (show RowU (((w.setCell ⟨k, a, none⟩ (.int .u64 y)).setCell ⟨k, p, none⟩ (.int .u64 x)).drew) k (swp d a p) rest from by
    have := H.out.swap (i := a) (j := p) (by omega) (by omega)
    rw [← Gx.out, ← Gy.out] at this
    exact this.drew)
  have HK := Lib.hid (keep_swap (Keep.refl (fun x => x = k) w) a p (.int .u64 y) (.int .u64 x)).drew
  have hsk : (swp d a p).size = d.size := by rw [size_swp]
  obtain ⟨d0, hd0⟩ : ∃ d0, d0 = swp d a p := ⟨_, rfl⟩
  rw [← hd0] at HR hsk
  have HD0 := Lib.hid hd0
  clear hd0
  generalize ((w.setCell ⟨k, a, none⟩ (.int .u64 y)).setCell ⟨k, p, none⟩ (.int .u64 x)).drew = w0 at *
  clear cx cy cz fx fy fz Gx Gy xw x0 xs xn yw y0 ys yn
  have hij : a + 1 ≤ b' + 1 := by omega
  go_loopw [10] (fun vi wr2 => ∃ i1 : Nat, vi = .int .i64 i1 ∧ (a + 1) ≤ i1 ∧ i1 ≤ b' + 1 ∧ scanUp (fun x => ltInt x d0[a]!) d0 b' i1 = scanUp (fun x => ltInt x d0[a]!) d0 b' (a + 1) ∧ RowU wr2 k d0 rest ∧ Keep (fun x => x = k) w wr2) (fun vi _ => b' + 1 - (intOf vi).toNat)
  case atStart => exact ⟨(a + 1), by first | rfl | (congr 1; omega), by omega, by omega, rfl, HR.out, HK.out⟩
  case round =>
    obtain ⟨i1, rfl, hi1, hi1j, hsc, hR1, hK1⟩ := hrel
    have HR1 := Lib.hid hR1
    have HK1 := Lib.hid hK1
    have HSc := Lib.hid hsc
    clear hR1 hK1 hsc
    by_cases hc1 : i1 ≤ b'
    · have hc1i : (i1 : Int) ≤ (b' : Int) := by omega
      obtain ⟨x, hx⟩ : ∃ x, x = d0[i1]! := ⟨_, rfl⟩
      obtain ⟨cx, fx⟩ := HR1.out.cell (i := i1) (by omega)
      rw [← hx] at cx
      have Gx := Lib.hid hx
      clear hx
      obtain ⟨xw, x0, xs, xn⟩ := idx (e := (i1 : Int)) (n := i1) (s := d.size) (by first | rfl | omega) (by omega) hsz
      obtain ⟨v, hv⟩ : ∃ x, x = d0[a]! := ⟨_, rfl⟩
      obtain ⟨cv, fv⟩ := HR1.out.cell (i := a) (by omega)
      rw [← hv] at cv
      have Gv := Lib.hid hv
      clear hv
      obtain ⟨vw, v0, vs, vn⟩ := idx (e := (a : Int)) (n := a) (s := d.size) (by first | rfl | omega) (by omega) hsz
      go_wp2_with fail
      go_quiet (first | (go_at_call 148; first | exact quiet_same (less_u _ _ _) | exact quiet_same2 (less_u _ _ _)) | fail)
      cases hl : ltInt x v
      · have hi2 : i1 = scanUp (fun x => ltInt x d0[a]!) d0 b' (a + 1) := by rw [← HSc.out]; exact (scanUp_end (fun x => ltInt x d0[a]!) d0 b' i1 (Or.inr (by simp only [← Gx.out, ← Gv.out, hl] <;> rfl))).symm
        have HI2 := Lib.hid hi2
        clear hi2 hl
        go_wp2_with fail
        go_loopw [11] (fun vj wr3 => ∃ j1 : Nat, vj = .int .i64 j1 ∧ i1 ≤ j1 + 1 ∧ j1 ≤ b' ∧ scanDown (fun x => !ltInt x d0[a]!) d0 i1 j1 = scanDown (fun x => !ltInt x d0[a]!) d0 i1 b' ∧ RowU wr3 k d0 rest ∧ Keep (fun x => x = k) w wr3) (fun vj _ => (intOf vj).toNat)
        case atStart => exact ⟨b', by first | rfl | (congr 1; omega), by omega, by omega, rfl, HR1.out.drewN _, HK1.out.drewN _⟩
        case round =>
          obtain ⟨j1, rfl, hj1, hj1j, hsc, hR2, hK2⟩ := hrel
          have HR2 := Lib.hid hR2
          have HK2 := Lib.hid hK2
          have HSc2 := Lib.hid hsc
          clear hR2 hK2 hsc
          by_cases hc2 : i1 ≤ j1
          · have hc2i : (i1 : Int) ≤ (j1 : Int) := by omega
            obtain ⟨y, hy⟩ : ∃ x, x = d0[j1]! := ⟨_, rfl⟩
            obtain ⟨cy, fy⟩ := HR2.out.cell (i := j1) (by omega)
            rw [← hy] at cy
            have Gy := Lib.hid hy
            clear hy
            obtain ⟨yw, y0, ys, yn⟩ := idx (e := (j1 : Int)) (n := j1) (s := d.size) (by first | rfl | omega) (by omega) hsz
            obtain ⟨v, hv⟩ : ∃ x, x = d0[a]! := ⟨_, rfl⟩
            obtain ⟨cv, fv⟩ := HR2.out.cell (i := a) (by omega)
            rw [← hv] at cv
            have Gv := Lib.hid hv
            clear hv
            obtain ⟨vw, v0, vs, vn⟩ := idx (e := (a : Int)) (n := a) (s := d.size) (by first | rfl | omega) (by omega) hsz
            go_wp2_with fail
            go_quiet (first | (go_at_call 148; first | exact quiet_same (less_u _ _ _) | exact quiet_same2 (less_u _ _ _)) | fail)
            cases hl : ltInt y v
            · have HL := Lib.hid hl
              clear hl
              go_wp2_with fail
              go_roundw
              case rel => exact ⟨j1 - 1, by (congr 1; omega), by omega, by omega, (by rw [← HSc2.out]; exact (scanDown_go (fun x => !ltInt x d0[a]!) d0 i1 j1 hc2 (by omega) (by simp only [← Gy.out, ← Gv.out, HL.out] <;> rfl)).symm), HR2.out.drewN _, HK2.out.drewN _⟩
              case measure => (simp [intOf]; try omega)
            · have hj2 : j1 = scanDown (fun x => !ltInt x d0[a]!) d0 i1 b' := by rw [← HSc2.out]; exact (scanDown_end (fun x => !ltInt x d0[a]!) d0 i1 j1 (Or.inr (by simp only [← Gy.out, ← Gv.out, hl] <;> rfl))).symm
              have HJ2 := Lib.hid hj2
              have hlt := part_scans_lt ltInt a (a + 1) b' d0 (by omega) HI2.out hj2 hc2
              clear hj2 hl cy fy Gy cv fv Gv yw y0 ys yn vw v0 vs vn
              have hc2b : ¬ ((j1 : Int) < (i1 : Int)) := by omega
              obtain ⟨x, hx⟩ : ∃ x, x = d0[i1]! := ⟨_, rfl⟩
              obtain ⟨cx, fx⟩ := HR2.out.cell (i := i1) (by omega)
              rw [← hx] at cx
              have Gx := Lib.hid hx
              clear hx
              obtain ⟨xw, x0, xs, xn⟩ := idx (e := (i1 : Int)) (n := i1) (s := d.size) (by first | rfl | omega) (by omega) hsz
              obtain ⟨y, hy⟩ : ∃ x, x = d0[j1]! := ⟨_, rfl⟩
              obtain ⟨cy, fy⟩ := HR2.out.cell (i := j1) (by omega)
              rw [← hy] at cy
              have Gy := Lib.hid hy
              clear hy
              obtain ⟨yw, y0, ys, yn⟩ := idx (e := (j1 : Int)) (n := j1) (s := d.size) (by first | rfl | omega) (by omega) hsz
              obtain ⟨cz, fz⟩ := (HR2.out.set (i := i1) (by omega) y).cell (i := j1) (by simp; omega)
              generalize (d0.setIfInBounds i1 y)[j1]! = z at cz
              have hne : ¬ i1 = j1 := by omega
              have hne2 : ¬ j1 = i1 := by omega
              have hjw : IntKind.i64.wrap ((j1 : Int) - 1) = (j1 : Int) - 1 := IntWalk.i64_in _ (by omega)
              have hiw : IntKind.i64.wrap ((i1 : Int) + 1) = (i1 : Int) + 1 := IntWalk.i64_in _ (by omega)
              have hfin : Sort.partition ltInt d a b p = ((partLoop ltInt a (i1 + 1) (j1 - 1) (swp d0 i1 j1)).1, false, swp (partLoop ltInt a (i1 + 1) (j1 - 1) (swp d0 i1 j1)).2 (partLoop ltInt a (i1 + 1) (j1 - 1) (swp d0 i1 j1)).1 a) := part_first_go ltInt d a b p rfl (by rw [HB'.out]; rfl) HD0.out HI2.out HJ2.out (by omega)
              have HFin := Lib.hid hfin
              clear hfin
              go_wp2_with fail
              go_region
              all_goals go_wp2_with fail
              obtain ⟨d3, hd3⟩ : ∃ d3, d3 = swp d0 i1 j1 := ⟨_, rfl⟩
              have HD3 := Lib.hid hd3
              clear hd3
              go_loopw [10, 11] (fun vi vj wr => ∃ (i j : Nat) (dk : Array Int), vi = .int .i64 i ∧ vj = .int .i64 j ∧ a < i ∧ i ≤ j + 1 ∧ j < d.size ∧ dk.size = d.size ∧ RowU wr k dk rest ∧ Keep (fun x => x = k) w wr ∧ partLoop ltInt a i j dk = partLoop ltInt a (i1 + 1) (j1 - 1) d3) (fun vi vj _ => (intOf vj).toNat + 1 - (intOf vi).toNat)
              case atStart => exact ⟨i1 + 1, j1 - 1, swp d0 i1 j1, by go_num, by (congr 1; omega), by omega, by omega, by omega, by rw [size_swp]; exact hsk, (by
                  have := HR2.out.swap (i := i1) (j := j1) (by omega) (by omega)
                  rw [← Gx.out, ← Gy.out] at this
                  exact this), by first | exact ((keep_swap HK2.out _ _ _ _).drewN _) | exact ((keep_swap HK2.out _ _ _ _).drewN _).drew, by rw [HD3.out]⟩
              case round =>
                clear Gx Gy cx cy cz fx fy fz xw x0 xs xn yw y0 ys yn hne hne2 hjw hiw HR2 HK2 HSc2 HR1 HK1 HSc HJ2 HI2 HR HK
                have HF3 : Hid (Sort.partition ltInt d a b p = ((partLoop ltInt a (i1 + 1) (j1 - 1) d3).1, false, swp (partLoop ltInt a (i1 + 1) (j1 - 1) d3).2 (partLoop ltInt a (i1 + 1) (j1 - 1) d3).1 a)) := Lib.hid (by rw [HD3.out]; exact HFin.out)
                obtain ⟨L3, hL3⟩ : ∃ L3, L3 = partLoop ltInt a (i1 + 1) (j1 - 1) d3 := ⟨_, rfl⟩
                rw [← hL3] at HF3 hrel
                have HL3 := Lib.hid hL3
                clear hL3 HD3 HFin HD0 hsk hi1 hi1j hj1 hj1j hlt hc2b hc2i hc1i hc1 hc2
                obtain ⟨i, j, dk, rfl, rfl, hai, hij, hjb, hsk, hR, hK, hO⟩ := hrel
                have HR := Lib.hid hR
                have HK := Lib.hid hK
                have HO := Lib.hid hO
                clear hR hK hO
                have hiw : IntKind.i64.wrap ((i : Int) + 1) = (i : Int) + 1 := IntWalk.i64_in _ (by omega)
                go_wp2_with fail
                go_loopw [10] (fun vi wr2 => ∃ i1 : Nat, vi = .int .i64 i1 ∧ i ≤ i1 ∧ i1 ≤ j + 1 ∧ scanUp (fun x => ltInt x dk[a]!) dk j i1 = scanUp (fun x => ltInt x dk[a]!) dk j i ∧ RowU wr2 k dk rest ∧ Keep (fun x => x = k) w wr2) (fun vi _ => j + 1 - (intOf vi).toNat)
                case atStart => exact ⟨i, by first | rfl | (congr 1; omega), by omega, by omega, rfl, HR.out, HK.out⟩
                case round =>
                  obtain ⟨i1, rfl, hi1, hi1j, hsc, hR1, hK1⟩ := hrel
                  have HR1 := Lib.hid hR1
                  have HK1 := Lib.hid hK1
                  have HSc := Lib.hid hsc
                  clear hR1 hK1 hsc
                  by_cases hc1 : i1 ≤ j
                  · have hc1i : (i1 : Int) ≤ (j : Int) := by omega
                    obtain ⟨x, hx⟩ : ∃ x, x = dk[i1]! := ⟨_, rfl⟩
                    obtain ⟨cx, fx⟩ := HR1.out.cell (i := i1) (by omega)
                    rw [← hx] at cx
                    have Gx := Lib.hid hx
                    clear hx
                    obtain ⟨xw, x0, xs, xn⟩ := idx (e := (i1 : Int)) (n := i1) (s := d.size) (by first | rfl | omega) (by omega) hsz
                    obtain ⟨v, hv⟩ : ∃ x, x = dk[a]! := ⟨_, rfl⟩
                    obtain ⟨cv, fv⟩ := HR1.out.cell (i := a) (by omega)
                    rw [← hv] at cv
                    have Gv := Lib.hid hv
                    clear hv
                    obtain ⟨vw, v0, vs, vn⟩ := idx (e := (a : Int)) (n := a) (s := d.size) (by first | rfl | omega) (by omega) hsz
                    go_wp2_with fail
                    go_quiet (first | (go_at_call 148; first | exact quiet_same (less_u _ _ _) | exact quiet_same2 (less_u _ _ _)) | fail)
                    cases hl : ltInt x v
                    · have hi2 : i1 = scanUp (fun x => ltInt x dk[a]!) dk j i := by rw [← HSc.out]; exact (scanUp_end (fun x => ltInt x dk[a]!) dk j i1 (Or.inr (by simp only [← Gx.out, ← Gv.out, hl] <;> rfl))).symm
                      have HI2 := Lib.hid hi2
                      clear hi2 hl
                      go_wp2_with fail
                      go_loopw [11] (fun vj wr3 => ∃ j1 : Nat, vj = .int .i64 j1 ∧ i1 ≤ j1 + 1 ∧ j1 ≤ j ∧ scanDown (fun x => !ltInt x dk[a]!) dk i1 j1 = scanDown (fun x => !ltInt x dk[a]!) dk i1 j ∧ RowU wr3 k dk rest ∧ Keep (fun x => x = k) w wr3) (fun vj _ => (intOf vj).toNat)
                      case atStart => exact ⟨j, by first | rfl | (congr 1; omega), by omega, by omega, rfl, HR1.out.drewN _, HK1.out.drewN _⟩
                      case round =>
                        obtain ⟨j1, rfl, hj1, hj1j, hsc, hR2, hK2⟩ := hrel
                        have HR2 := Lib.hid hR2
                        have HK2 := Lib.hid hK2
                        have HSc2 := Lib.hid hsc
                        clear hR2 hK2 hsc
                        by_cases hc2 : i1 ≤ j1
                        · have hc2i : (i1 : Int) ≤ (j1 : Int) := by omega
                          obtain ⟨y, hy⟩ : ∃ x, x = dk[j1]! := ⟨_, rfl⟩
                          obtain ⟨cy, fy⟩ := HR2.out.cell (i := j1) (by omega)
                          rw [← hy] at cy
                          have Gy := Lib.hid hy
                          clear hy
                          obtain ⟨yw, y0, ys, yn⟩ := idx (e := (j1 : Int)) (n := j1) (s := d.size) (by first | rfl | omega) (by omega) hsz
                          obtain ⟨v, hv⟩ : ∃ x, x = dk[a]! := ⟨_, rfl⟩
                          obtain ⟨cv, fv⟩ := HR2.out.cell (i := a) (by omega)
                          rw [← hv] at cv
                          have Gv := Lib.hid hv
                          clear hv
                          obtain ⟨vw, v0, vs, vn⟩ := idx (e := (a : Int)) (n := a) (s := d.size) (by first | rfl | omega) (by omega) hsz
                          go_wp2_with fail
                          go_quiet (first | (go_at_call 148; first | exact quiet_same (less_u _ _ _) | exact quiet_same2 (less_u _ _ _)) | fail)
                          cases hl : ltInt y v
                          · have HL := Lib.hid hl
                            clear hl
                            go_wp2_with fail
                            go_roundw
                            case rel => exact ⟨j1 - 1, by (congr 1; omega), by omega, by omega, (by rw [← HSc2.out]; exact (scanDown_go (fun x => !ltInt x dk[a]!) dk i1 j1 hc2 (by omega) (by simp only [← Gy.out, ← Gv.out, HL.out] <;> rfl)).symm), HR2.out.drewN _, HK2.out.drewN _⟩
                            case measure => (simp [intOf]; try omega)
                          · have hj2 : j1 = scanDown (fun x => !ltInt x dk[a]!) dk i1 j := by rw [← HSc2.out]; exact (scanDown_end (fun x => !ltInt x dk[a]!) dk i1 j1 (Or.inr (by simp only [← Gy.out, ← Gv.out, hl] <;> rfl))).symm
                            have HJ2 := Lib.hid hj2
                            have hlt := part_scans_lt ltInt a i j dk (by omega) HI2.out hj2 hc2
                            clear hj2 hl cy fy Gy cv fv Gv yw y0 ys yn vw v0 vs vn
                            have hc2b : ¬ ((j1 : Int) < (i1 : Int)) := by omega
                            obtain ⟨x, hx⟩ : ∃ x, x = dk[i1]! := ⟨_, rfl⟩
                            obtain ⟨cx, fx⟩ := HR2.out.cell (i := i1) (by omega)
                            rw [← hx] at cx
                            have Gx := Lib.hid hx
                            clear hx
                            obtain ⟨xw, x0, xs, xn⟩ := idx (e := (i1 : Int)) (n := i1) (s := d.size) (by first | rfl | omega) (by omega) hsz
                            obtain ⟨y, hy⟩ : ∃ x, x = dk[j1]! := ⟨_, rfl⟩
                            obtain ⟨cy, fy⟩ := HR2.out.cell (i := j1) (by omega)
                            rw [← hy] at cy
                            have Gy := Lib.hid hy
                            clear hy
                            obtain ⟨yw, y0, ys, yn⟩ := idx (e := (j1 : Int)) (n := j1) (s := d.size) (by first | rfl | omega) (by omega) hsz
                            obtain ⟨cz, fz⟩ := (HR2.out.set (i := i1) (by omega) y).cell (i := j1) (by simp; omega)
                            generalize (dk.setIfInBounds i1 y)[j1]! = z at cz
                            have hne : ¬ i1 = j1 := by omega
                            have hne2 : ¬ j1 = i1 := by omega
                            have hjw : IntKind.i64.wrap ((j1 : Int) - 1) = (j1 : Int) - 1 := IntWalk.i64_in _ (by omega)
                            go_wp2_with fail
                            go_region
                            all_goals go_wp2_with fail
                            go_roundw
                            case rel => exact ⟨i1 + 1, j1 - 1, swp dk i1 j1, by go_num, by (congr 1; omega), by omega, by omega, by omega, by rw [size_swp]; exact hsk, (by
                                have := HR2.out.swap (i := i1) (j := j1) (by omega) (by omega)
                                rw [← Gx.out, ← Gy.out] at this
                                exact this), by first | exact ((keep_swap HK2.out _ _ _ _).drewN _) | exact ((keep_swap HK2.out _ _ _ _).drewN _).drew, (by rw [← HL3.out, ← HO.out]; exact (part_go ltInt a i j dk HI2.out HJ2.out (by omega)).symm)⟩
                            case measure => (simp [intOf]; try omega)
                        · have hj2 : j1 = scanDown (fun x => !ltInt x dk[a]!) dk i1 j := by rw [← HSc2.out]; exact (scanDown_end (fun x => !ltInt x dk[a]!) dk i1 j1 (Or.inl (by omega))).symm
                          have HJ2 := Lib.hid hj2
                          clear hj2
                          have hc2i : ¬ ((i1 : Int) ≤ (j1 : Int)) := by omega
                          have hc2d : decide ((i1 : Int) ≤ (j1 : Int)) = false := decide_eq_false hc2i
                          have hc2b : (j1 : Int) < (i1 : Int) := by omega
                          have hc2n : j1 < i1 := by omega
                          have hc2k : ¬ i1 ≤ j1 := by omega
                          have hc2m : decide (i1 ≤ j1) = false := decide_eq_false hc2k
                          go_wp2_with fail
                          go_quiet (fail)
                          
                          have hfin : L3 = (j1, dk) := by rw [← HO.out]; exact part_break ltInt a i j dk HI2.out HJ2.out hc2n
                          have hfin2 : Sort.partition ltInt d a b p = (j1, false, swp dk j1 a) := by rw [HF3.out, hfin]
                          have HFin := Lib.hid hfin2
                          clear hfin hfin2
                          obtain ⟨x, hx⟩ : ∃ x, x = dk[j1]! := ⟨_, rfl⟩
                          obtain ⟨cx, fx⟩ := HR2.out.cell (i := j1) (by omega)
                          rw [← hx] at cx
                          have Gx := Lib.hid hx
                          clear hx
                          obtain ⟨xw, x0, xs, xn⟩ := idx (e := (j1 : Int)) (n := j1) (s := d.size) (by first | rfl | omega) (by omega) hsz
                          obtain ⟨y, hy⟩ : ∃ x, x = dk[a]! := ⟨_, rfl⟩
                          obtain ⟨cy, fy⟩ := HR2.out.cell (i := a) (by omega)
                          rw [← hy] at cy
                          have Gy := Lib.hid hy
                          clear hy
                          obtain ⟨yw, y0, ys, yn⟩ := idx (e := (a : Int)) (n := a) (s := d.size) (by first | rfl | omega) (by omega) hsz
                          obtain ⟨cz, fz⟩ := (HR2.out.set (i := j1) (by omega) y).cell (i := a) (by simp; omega)
                          generalize (dk.setIfInBounds j1 y)[a]! = z at cz
                          have cz2 : ∀ q : Nat, ((wr.drewN q).setCell ⟨k, j1, none⟩ (.int .u64 y)).cell? ⟨k, a, none⟩ = some (.int .u64 z) := fun _ => cz
                          have fz2 : ∀ q : Nat, ((wr.drewN q).setCell ⟨k, j1, none⟩ (.int .u64 y)).frozen? ⟨k, a, none⟩ = false := fun _ => fz
                          go_wp2_with fail
                          go_region
                          all_goals go_wp2_with fail
                          go_returns
                          rw [HFin.out]
                          refine ⟨rfl, (by
                              have := HR2.out.swap (i := j1) (j := a) (by omega) (by omega)
                              rw [← Gx.out, ← Gy.out] at this
                              exact this), by first | exact ((keep_swap HK2.out _ _ _ _).drewN _) | exact ((keep_swap HK2.out _ _ _ _).drewN _).drew⟩
                    · have HL := Lib.hid hl
                      clear hl
                      go_wp2_with fail
                      go_roundw
                      case rel => exact ⟨i1 + 1, by go_num, by omega, by omega, (by rw [← HSc.out]; exact (scanUp_go (fun x => ltInt x dk[a]!) dk j i1 hc1 (by simp only [← Gx.out, ← Gv.out, HL.out] <;> rfl)).symm), HR1.out.drewN _, HK1.out.drewN _⟩
                      case measure => (simp [intOf]; try omega)
                  · have hi2 : i1 = scanUp (fun x => ltInt x dk[a]!) dk j i := by rw [← HSc.out]; exact (scanUp_end (fun x => ltInt x dk[a]!) dk j i1 (Or.inl hc1)).symm
                    have HI2 := Lib.hid hi2
                    clear hi2
                    have hc1i : ¬ ((i1 : Int) ≤ (j : Int)) := by omega
                    have hc1d : decide ((i1 : Int) ≤ (j : Int)) = false := decide_eq_false hc1i
                    go_wp2_with fail
                    go_quiet (fail)
                    go_wp2_with fail
                    go_loopw [11] (fun vj wr3 => ∃ j1 : Nat, vj = .int .i64 j1 ∧ i1 ≤ j1 + 1 ∧ j1 ≤ j ∧ scanDown (fun x => !ltInt x dk[a]!) dk i1 j1 = scanDown (fun x => !ltInt x dk[a]!) dk i1 j ∧ RowU wr3 k dk rest ∧ Keep (fun x => x = k) w wr3) (fun vj _ => (intOf vj).toNat)
                    case atStart => exact ⟨j, by first | rfl | (congr 1; omega), by omega, by omega, rfl, HR1.out.drewN _, HK1.out.drewN _⟩
                    case round =>
                      obtain ⟨j1, rfl, hj1, hj1j, hsc, hR2, hK2⟩ := hrel
                      have HR2 := Lib.hid hR2
                      have HK2 := Lib.hid hK2
                      have HSc2 := Lib.hid hsc
                      clear hR2 hK2 hsc
                      have hj2 : j1 = scanDown (fun x => !ltInt x dk[a]!) dk i1 j := by rw [← HSc2.out]; exact (scanDown_end (fun x => !ltInt x dk[a]!) dk i1 j1 (Or.inl (by omega))).symm
                      have HJ2 := Lib.hid hj2
                      clear hj2
                      have hc2i : ¬ ((i1 : Int) ≤ (j1 : Int)) := by omega
                      have hc2d : decide ((i1 : Int) ≤ (j1 : Int)) = false := decide_eq_false hc2i
                      have hc2b : (j1 : Int) < (i1 : Int) := by omega
                      have hc2n : j1 < i1 := by omega
                      have hc2k : ¬ i1 ≤ j1 := by omega
                      have hc2m : decide (i1 ≤ j1) = false := decide_eq_false hc2k
                      go_wp2_with fail
                      go_quiet (fail)
                      have hfin : L3 = (j1, dk) := by rw [← HO.out]; exact part_break ltInt a i j dk HI2.out HJ2.out hc2n
                      have hfin2 : Sort.partition ltInt d a b p = (j1, false, swp dk j1 a) := by rw [HF3.out, hfin]
                      have HFin := Lib.hid hfin2
                      clear hfin hfin2
                      obtain ⟨x, hx⟩ : ∃ x, x = dk[j1]! := ⟨_, rfl⟩
                      obtain ⟨cx, fx⟩ := HR2.out.cell (i := j1) (by omega)
                      rw [← hx] at cx
                      have Gx := Lib.hid hx
                      clear hx
                      obtain ⟨xw, x0, xs, xn⟩ := idx (e := (j1 : Int)) (n := j1) (s := d.size) (by first | rfl | omega) (by omega) hsz
                      obtain ⟨y, hy⟩ : ∃ x, x = dk[a]! := ⟨_, rfl⟩
                      obtain ⟨cy, fy⟩ := HR2.out.cell (i := a) (by omega)
                      rw [← hy] at cy
                      have Gy := Lib.hid hy
                      clear hy
                      obtain ⟨yw, y0, ys, yn⟩ := idx (e := (a : Int)) (n := a) (s := d.size) (by first | rfl | omega) (by omega) hsz
                      obtain ⟨cz, fz⟩ := (HR2.out.set (i := j1) (by omega) y).cell (i := a) (by simp; omega)
                      generalize (dk.setIfInBounds j1 y)[a]! = z at cz
                      have cz2 : ∀ q : Nat, ((wr.drewN q).setCell ⟨k, j1, none⟩ (.int .u64 y)).cell? ⟨k, a, none⟩ = some (.int .u64 z) := fun _ => cz
                      have fz2 : ∀ q : Nat, ((wr.drewN q).setCell ⟨k, j1, none⟩ (.int .u64 y)).frozen? ⟨k, a, none⟩ = false := fun _ => fz
                      go_wp2_with fail
                      go_region
                      all_goals go_wp2_with fail
                      go_returns
                      rw [HFin.out]
                      refine ⟨rfl, (by
                          have := HR2.out.swap (i := j1) (j := a) (by omega) (by omega)
                          rw [← Gx.out, ← Gy.out] at this
                          exact this), by first | exact ((keep_swap HK2.out _ _ _ _).drewN _) | exact ((keep_swap HK2.out _ _ _ _).drewN _).drew⟩
          · have hj2 : j1 = scanDown (fun x => !ltInt x d0[a]!) d0 i1 b' := by rw [← HSc2.out]; exact (scanDown_end (fun x => !ltInt x d0[a]!) d0 i1 j1 (Or.inl (by omega))).symm
            have HJ2 := Lib.hid hj2
            clear hj2
            have hc2i : ¬ ((i1 : Int) ≤ (j1 : Int)) := by omega
            have hc2d : decide ((i1 : Int) ≤ (j1 : Int)) = false := decide_eq_false hc2i
            have hc2b : (j1 : Int) < (i1 : Int) := by omega
            have hc2n : j1 < i1 := by omega
            have hc2k : ¬ i1 ≤ j1 := by omega
            have hc2m : decide (i1 ≤ j1) = false := decide_eq_false hc2k
            go_wp2_with fail
            go_quiet (fail)
            
            have hfin : Sort.partition ltInt d a b p = (j1, true, swp d0 j1 a) := part_first_break ltInt d a b p rfl (by rw [HB'.out]; rfl) HD0.out HI2.out HJ2.out hc2n
            have HFin := Lib.hid hfin
            clear hfin
            obtain ⟨x, hx⟩ : ∃ x, x = d0[j1]! := ⟨_, rfl⟩
            obtain ⟨cx, fx⟩ := HR2.out.cell (i := j1) (by omega)
            rw [← hx] at cx
            have Gx := Lib.hid hx
            clear hx
            obtain ⟨xw, x0, xs, xn⟩ := idx (e := (j1 : Int)) (n := j1) (s := d.size) (by first | rfl | omega) (by omega) hsz
            obtain ⟨y, hy⟩ : ∃ x, x = d0[a]! := ⟨_, rfl⟩
            obtain ⟨cy, fy⟩ := HR2.out.cell (i := a) (by omega)
            rw [← hy] at cy
            have Gy := Lib.hid hy
            clear hy
            obtain ⟨yw, y0, ys, yn⟩ := idx (e := (a : Int)) (n := a) (s := d.size) (by first | rfl | omega) (by omega) hsz
            obtain ⟨cz, fz⟩ := (HR2.out.set (i := j1) (by omega) y).cell (i := a) (by simp; omega)
            generalize (d0.setIfInBounds j1 y)[a]! = z at cz
            have cz2 : ∀ q : Nat, ((wr.drewN q).setCell ⟨k, j1, none⟩ (.int .u64 y)).cell? ⟨k, a, none⟩ = some (.int .u64 z) := fun _ => cz
            have fz2 : ∀ q : Nat, ((wr.drewN q).setCell ⟨k, j1, none⟩ (.int .u64 y)).frozen? ⟨k, a, none⟩ = false := fun _ => fz
            go_wp2_with fail
            go_region
            all_goals go_wp2_with fail
            go_returns
            rw [HFin.out]
            refine ⟨rfl, (by
                have := HR2.out.swap (i := j1) (j := a) (by omega) (by omega)
                rw [← Gx.out, ← Gy.out] at this
                exact this), by first | exact ((keep_swap HK2.out _ _ _ _).drewN _) | exact ((keep_swap HK2.out _ _ _ _).drewN _).drew⟩
      · have HL := Lib.hid hl
        clear hl
        go_wp2_with fail
        go_roundw
        case rel => exact ⟨i1 + 1, by go_num, by omega, by omega, (by rw [← HSc.out]; exact (scanUp_go (fun x => ltInt x d0[a]!) d0 b' i1 hc1 (by simp only [← Gx.out, ← Gv.out, HL.out] <;> rfl)).symm), HR1.out.drewN _, HK1.out.drewN _⟩
        case measure => (simp [intOf]; try omega)
    · have hi2 : i1 = scanUp (fun x => ltInt x d0[a]!) d0 b' (a + 1) := by rw [← HSc.out]; exact (scanUp_end (fun x => ltInt x d0[a]!) d0 b' i1 (Or.inl hc1)).symm
      have HI2 := Lib.hid hi2
      clear hi2
      have hc1i : ¬ ((i1 : Int) ≤ (b' : Int)) := by omega
      have hc1d : decide ((i1 : Int) ≤ (b' : Int)) = false := decide_eq_false hc1i
      go_wp2_with fail
      go_quiet (fail)
      go_wp2_with fail
      go_loopw [11] (fun vj wr3 => ∃ j1 : Nat, vj = .int .i64 j1 ∧ i1 ≤ j1 + 1 ∧ j1 ≤ b' ∧ scanDown (fun x => !ltInt x d0[a]!) d0 i1 j1 = scanDown (fun x => !ltInt x d0[a]!) d0 i1 b' ∧ RowU wr3 k d0 rest ∧ Keep (fun x => x = k) w wr3) (fun vj _ => (intOf vj).toNat)
      case atStart => exact ⟨b', by first | rfl | (congr 1; omega), by omega, by omega, rfl, HR1.out.drewN _, HK1.out.drewN _⟩
      case round =>
        obtain ⟨j1, rfl, hj1, hj1j, hsc, hR2, hK2⟩ := hrel
        have HR2 := Lib.hid hR2
        have HK2 := Lib.hid hK2
        have HSc2 := Lib.hid hsc
        clear hR2 hK2 hsc
        have hj2 : j1 = scanDown (fun x => !ltInt x d0[a]!) d0 i1 b' := by rw [← HSc2.out]; exact (scanDown_end (fun x => !ltInt x d0[a]!) d0 i1 j1 (Or.inl (by omega))).symm
        have HJ2 := Lib.hid hj2
        clear hj2
        have hc2i : ¬ ((i1 : Int) ≤ (j1 : Int)) := by omega
        have hc2d : decide ((i1 : Int) ≤ (j1 : Int)) = false := decide_eq_false hc2i
        have hc2b : (j1 : Int) < (i1 : Int) := by omega
        have hc2n : j1 < i1 := by omega
        have hc2k : ¬ i1 ≤ j1 := by omega
        have hc2m : decide (i1 ≤ j1) = false := decide_eq_false hc2k
        go_wp2_with fail
        go_quiet (fail)
        have hfin : Sort.partition ltInt d a b p = (j1, true, swp d0 j1 a) := part_first_break ltInt d a b p rfl (by rw [HB'.out]; rfl) HD0.out HI2.out HJ2.out hc2n
        have HFin := Lib.hid hfin
        clear hfin
        obtain ⟨x, hx⟩ : ∃ x, x = d0[j1]! := ⟨_, rfl⟩
        obtain ⟨cx, fx⟩ := HR2.out.cell (i := j1) (by omega)
        rw [← hx] at cx
        have Gx := Lib.hid hx
        clear hx
        obtain ⟨xw, x0, xs, xn⟩ := idx (e := (j1 : Int)) (n := j1) (s := d.size) (by first | rfl | omega) (by omega) hsz
        obtain ⟨y, hy⟩ : ∃ x, x = d0[a]! := ⟨_, rfl⟩
        obtain ⟨cy, fy⟩ := HR2.out.cell (i := a) (by omega)
        rw [← hy] at cy
        have Gy := Lib.hid hy
        clear hy
        obtain ⟨yw, y0, ys, yn⟩ := idx (e := (a : Int)) (n := a) (s := d.size) (by first | rfl | omega) (by omega) hsz
        obtain ⟨cz, fz⟩ := (HR2.out.set (i := j1) (by omega) y).cell (i := a) (by simp; omega)
        generalize (d0.setIfInBounds j1 y)[a]! = z at cz
        have cz2 : ∀ q : Nat, ((wr.drewN q).setCell ⟨k, j1, none⟩ (.int .u64 y)).cell? ⟨k, a, none⟩ = some (.int .u64 z) := fun _ => cz
        have fz2 : ∀ q : Nat, ((wr.drewN q).setCell ⟨k, j1, none⟩ (.int .u64 y)).frozen? ⟨k, a, none⟩ = false := fun _ => fz
        go_wp2_with fail
        go_region
        all_goals go_wp2_with fail
        go_returns
        rw [HFin.out]
        refine ⟨rfl, (by
            have := HR2.out.swap (i := j1) (j := a) (by omega) (by omega)
            rw [← Gx.out, ← Gy.out] at this
            exact this), by first | exact ((keep_swap HK2.out _ _ _ _).drewN _) | exact ((keep_swap HK2.out _ _ _ _).drewN _).drew⟩
end Go.Proofs.YtgmdedkingampaaGreat

namespace Go.Proofs.YtgmdedkingampaaGreat
open Go.ChangeShapes Go.WideShapes Go.ChangeAt Go.RowKit Go.Sort
set_option maxRecDepth 100000

set_option maxHeartbeats 8000000 in
theorem parteq_u {w : World} {k : Nat} {d : Array Int} {rest : List Value} (h : RowU w k d rest) (cap a b p : Nat) (hap : a ≤ p) (hpb : p < b) (hb : b ≤ d.size) (hsz : d.size < 1000000000000) :
    Calls Tryz.prog 149 #[.slice (some ⟨k, 0, none⟩) d.size cap, .int .i64 a, .int .i64 b, .int .i64 p] w fun e w' => e = .returned (.int .i64 (Sort.partitionEqual ltInt d a b p).1) ∧ RowU w' k (Sort.partitionEqual ltInt d a b p).2 rest ∧ Keep (fun x => x = k) w w' := by
  have H := Lib.hid h
  clear h
  obtain ⟨x, hx⟩ : ∃ x, x = d[a]! := ⟨_, rfl⟩
  obtain ⟨cx, fx⟩ := H.out.cell (i := a) (by omega)
  rw [← hx] at cx
  have Gx := Lib.hid hx
  clear hx
  obtain ⟨xw, x0, xs, xn⟩ := idx (e := (a : Int)) (n := a) (s := d.size) (by first | rfl | omega) (by omega) hsz
  obtain ⟨y, hy⟩ : ∃ x, x = d[p]! := ⟨_, rfl⟩
  obtain ⟨cy, fy⟩ := H.out.cell (i := p) (by omega)
  rw [← hy] at cy
  have Gy := Lib.hid hy
  clear hy
  obtain ⟨yw, y0, ys, yn⟩ := idx (e := (p : Int)) (n := p) (s := d.size) (by first | rfl | omega) (by omega) hsz
  obtain ⟨cz, fz⟩ := (H.out.set (i := a) (by omega) y).cell (i := p) (by simp; omega)
  generalize (d.setIfInBounds a y)[p]! = z at cz
  obtain ⟨b', hb'⟩ : ∃ b', b = b' + 1 := ⟨b - 1, by omega⟩
  have hbw : IntKind.i64.wrap ((b : Int) - 1) = (b' : Int) := by rw [show (b : Int) - 1 = (b' : Int) by omega]; exact IntWalk.i64_in _ (by omega)
  have HB' := Lib.hid hb'
  have hb1 : b' < d.size := by omega
  have hb2 : a ≤ b' := by omega
  clear hb'
  have haw : IntKind.i64.wrap ((a : Int) + 1) = (a : Int) + 1 := IntWalk.i64_in _ (by omega)
  go_enter Tryz.func149, Tryz.ntmps149
  go_wp2_with fail
  go_region
  all_goals go_wp2_with fail
  have HR0 := Lib.hid (show RowU (((w.setCell ⟨k, a, none⟩ (.int .u64 y)).setCell ⟨k, p, none⟩ (.int .u64 x)).drew) k (swp d a p) rest from by
    have := H.out.swap (i := a) (j := p) (by omega) (by omega)
    rw [← Gx.out, ← Gy.out] at this
    exact this.drew)
  have HK0 := Lib.hid (keep_swap (Keep.refl (fun x => x = k) w) a p (.int .u64 y) (.int .u64 x)).drew
  have hp1 : Sort.partitionEqual ltInt d a b p = partEqLoop ltInt a (a + 1) b' (swp d a p) := by rw [HB'.out]; rfl
  have HP := Lib.hid hp1
  have hs0 : (swp d a p).size = d.size := by rw [size_swp]
  generalize ((w.setCell ⟨k, a, none⟩ (.int .u64 y)).setCell ⟨k, p, none⟩ (.int .u64 x)).drew = w0 at *
  clear cx cy cz fx fy fz Gx Gy xw x0 xs xn yw y0 ys yn hp1
  generalize swp d a p = d0 at *
  go_loopw [9, 10] (fun vi vj wr => ∃ (i j : Nat) (dk : Array Int), vi = .int .i64 i ∧ vj = .int .i64 j ∧ a < i ∧ i ≤ j + 1 ∧ j < d.size ∧ dk.size = d.size ∧ RowU wr k dk rest ∧ Keep (fun x => x = k) w wr ∧ partEqLoop ltInt a i j dk = partEqLoop ltInt a (a + 1) b' d0) (fun vi vj _ => (intOf vj).toNat + 1 - (intOf vi).toNat)
  case atStart => exact ⟨a + 1, b', d0, by first | rfl | go_num, by first | rfl | (congr 1; omega) | go_num, by omega, by omega, by omega, hs0, HR0.out, HK0.out, rfl⟩
  case round =>
    obtain ⟨i, j, dk, rfl, rfl, hai, hij, hjb, hsk, hR, hK, hO⟩ := hrel
    have HR := Lib.hid hR
    have HK := Lib.hid hK
    have HO := Lib.hid hO
    clear hR hK hO
    have hiw : IntKind.i64.wrap ((i : Int) + 1) = (i : Int) + 1 := IntWalk.i64_in _ (by omega)
    go_wp2_with fail
    go_loopw [9] (fun vi wr2 => ∃ i1 : Nat, vi = .int .i64 i1 ∧ i ≤ i1 ∧ i1 ≤ j + 1 ∧ scanUp (fun x => !ltInt dk[a]! x) dk j i1 = scanUp (fun x => !ltInt dk[a]! x) dk j i ∧ RowU wr2 k dk rest ∧ Keep (fun x => x = k) w wr2) (fun vi _ => j + 1 - (intOf vi).toNat)
    case atStart => exact ⟨i, by first | rfl | (congr 1; omega), by omega, by omega, rfl, HR.out, HK.out⟩
    case round =>
      obtain ⟨i1, rfl, hi1, hi1j, hsc, hR1, hK1⟩ := hrel
      have HR1 := Lib.hid hR1
      have HK1 := Lib.hid hK1
      have HSc := Lib.hid hsc
      clear hR1 hK1 hsc
      by_cases hc1 : i1 ≤ j
      · have hc1i : (i1 : Int) ≤ (j : Int) := by omega
        obtain ⟨x, hx⟩ : ∃ x, x = dk[i1]! := ⟨_, rfl⟩
        obtain ⟨cx, fx⟩ := HR1.out.cell (i := i1) (by omega)
        rw [← hx] at cx
        have Gx := Lib.hid hx
        clear hx
        obtain ⟨xw, x0, xs, xn⟩ := idx (e := (i1 : Int)) (n := i1) (s := d.size) (by first | rfl | omega) (by omega) hsz
        obtain ⟨v, hv⟩ : ∃ x, x = dk[a]! := ⟨_, rfl⟩
        obtain ⟨cv, fv⟩ := HR1.out.cell (i := a) (by omega)
        rw [← hv] at cv
        have Gv := Lib.hid hv
        clear hv
        obtain ⟨vw, v0, vs, vn⟩ := idx (e := (a : Int)) (n := a) (s := d.size) (by first | rfl | omega) (by omega) hsz
        go_wp2_with fail
        go_quiet (first | (go_at_call 148; first | exact quiet_same (less_u _ _ _) | exact quiet_same2 (less_u _ _ _)) | fail)
        cases hl : ltInt v x
        · have HL := Lib.hid hl
          clear hl
          go_wp2_with fail
          go_roundw
          case rel => exact ⟨i1 + 1, by go_num, by omega, by omega, (by rw [← HSc.out]; exact (scanUp_go (fun x => !ltInt dk[a]! x) dk j i1 hc1 (by simp only [← Gx.out, ← Gv.out, HL.out] <;> rfl)).symm), HR1.out.drewN _, HK1.out.drewN _⟩
          case measure => (simp [intOf]; try omega)
        · have hi2 : i1 = scanUp (fun x => !ltInt dk[a]! x) dk j i := by rw [← HSc.out]; exact (scanUp_end (fun x => !ltInt dk[a]! x) dk j i1 (Or.inr (by simp only [← Gx.out, ← Gv.out, hl] <;> rfl))).symm
          have HI2 := Lib.hid hi2
          clear hi2 hl
          go_wp2_with fail
          go_loopw [10] (fun vj wr3 => ∃ j1 : Nat, vj = .int .i64 j1 ∧ i1 ≤ j1 + 1 ∧ j1 ≤ j ∧ scanDown (fun x => ltInt dk[a]! x) dk i1 j1 = scanDown (fun x => ltInt dk[a]! x) dk i1 j ∧ RowU wr3 k dk rest ∧ Keep (fun x => x = k) w wr3) (fun vj _ => (intOf vj).toNat)
          case atStart => exact ⟨j, by first | rfl | (congr 1; omega), by omega, by omega, rfl, HR1.out.drewN _, HK1.out.drewN _⟩
          case round =>
            obtain ⟨j1, rfl, hj1, hj1j, hsc, hR2, hK2⟩ := hrel
            have HR2 := Lib.hid hR2
            have HK2 := Lib.hid hK2
            have HSc2 := Lib.hid hsc
            clear hR2 hK2 hsc
            by_cases hc2 : i1 ≤ j1
            · have hc2i : (i1 : Int) ≤ (j1 : Int) := by omega
              obtain ⟨y, hy⟩ : ∃ x, x = dk[j1]! := ⟨_, rfl⟩
              obtain ⟨cy, fy⟩ := HR2.out.cell (i := j1) (by omega)
              rw [← hy] at cy
              have Gy := Lib.hid hy
              clear hy
              obtain ⟨yw, y0, ys, yn⟩ := idx (e := (j1 : Int)) (n := j1) (s := d.size) (by first | rfl | omega) (by omega) hsz
              obtain ⟨v, hv⟩ : ∃ x, x = dk[a]! := ⟨_, rfl⟩
              obtain ⟨cv, fv⟩ := HR2.out.cell (i := a) (by omega)
              rw [← hv] at cv
              have Gv := Lib.hid hv
              clear hv
              obtain ⟨vw, v0, vs, vn⟩ := idx (e := (a : Int)) (n := a) (s := d.size) (by first | rfl | omega) (by omega) hsz
              go_wp2_with fail
              go_quiet (first | (go_at_call 148; first | exact quiet_same (less_u _ _ _) | exact quiet_same2 (less_u _ _ _)) | fail)
              cases hl : ltInt v y
              · have hj2 : j1 = scanDown (fun x => ltInt dk[a]! x) dk i1 j := by rw [← HSc2.out]; exact (scanDown_end (fun x => ltInt dk[a]! x) dk i1 j1 (Or.inr (by simp only [← Gy.out, ← Gv.out, hl] <;> rfl))).symm
                have HJ2 := Lib.hid hj2
                have hlt := scans_lt ltInt a i j dk (by omega) HI2.out hj2 hc2
                clear hj2 hl cy fy Gy cv fv Gv yw y0 ys yn vw v0 vs vn
                have hc2b : ¬ ((j1 : Int) < (i1 : Int)) := by omega
                obtain ⟨x, hx⟩ : ∃ x, x = dk[i1]! := ⟨_, rfl⟩
                obtain ⟨cx, fx⟩ := HR2.out.cell (i := i1) (by omega)
                rw [← hx] at cx
                have Gx := Lib.hid hx
                clear hx
                obtain ⟨xw, x0, xs, xn⟩ := idx (e := (i1 : Int)) (n := i1) (s := d.size) (by first | rfl | omega) (by omega) hsz
                obtain ⟨y, hy⟩ : ∃ x, x = dk[j1]! := ⟨_, rfl⟩
                obtain ⟨cy, fy⟩ := HR2.out.cell (i := j1) (by omega)
                rw [← hy] at cy
                have Gy := Lib.hid hy
                clear hy
                obtain ⟨yw, y0, ys, yn⟩ := idx (e := (j1 : Int)) (n := j1) (s := d.size) (by first | rfl | omega) (by omega) hsz
                obtain ⟨cz, fz⟩ := (HR2.out.set (i := i1) (by omega) y).cell (i := j1) (by simp; omega)
                generalize (dk.setIfInBounds i1 y)[j1]! = z at cz
                have hne : ¬ i1 = j1 := by omega
                have hne2 : ¬ j1 = i1 := by omega
                have hjw : IntKind.i64.wrap ((j1 : Int) - 1) = (j1 : Int) - 1 := IntWalk.i64_in _ (by omega)
                go_wp2_with fail
                go_region
                all_goals go_wp2_with fail
                go_roundw
                case rel => exact ⟨i1 + 1, j1 - 1, swp dk i1 j1, by go_num, by (congr 1; omega), by omega, by omega, by omega, by rw [size_swp]; exact hsk, (by
                    have := HR2.out.swap (i := i1) (j := j1) (by omega) (by omega)
                    rw [← Gx.out, ← Gy.out] at this
                    exact this), by first | exact ((keep_swap HK2.out _ _ _ _).drewN _) | exact ((keep_swap HK2.out _ _ _ _).drewN _).drew, (by rw [← HO.out]; exact (partEq_go ltInt a i j dk HI2.out HJ2.out (by omega)).symm)⟩
                case measure => (simp [intOf]; try omega)
              · have HL := Lib.hid hl
                clear hl
                go_wp2_with fail
                go_roundw
                case rel => exact ⟨j1 - 1, by (congr 1; omega), by omega, by omega, (by rw [← HSc2.out]; exact (scanDown_go (fun x => ltInt dk[a]! x) dk i1 j1 hc2 (by omega) (by simp only [← Gy.out, ← Gv.out, HL.out] <;> rfl)).symm), HR2.out.drewN _, HK2.out.drewN _⟩
                case measure => (simp [intOf]; try omega)
            · have hj2 : j1 = scanDown (fun x => ltInt dk[a]! x) dk i1 j := by rw [← HSc2.out]; exact (scanDown_end (fun x => ltInt dk[a]! x) dk i1 j1 (Or.inl (by omega))).symm
              have HJ2 := Lib.hid hj2
              clear hj2
              have hc2i : ¬ ((i1 : Int) ≤ (j1 : Int)) := by omega
              have hc2d : decide ((i1 : Int) ≤ (j1 : Int)) = false := decide_eq_false hc2i
              have hc2b : (j1 : Int) < (i1 : Int) := by omega
              have hc2n : j1 < i1 := by omega
              have hc2k : ¬ i1 ≤ j1 := by omega
              have hc2m : decide (i1 ≤ j1) = false := decide_eq_false hc2k
              go_wp2_with fail
              go_quiet (fail)
              
              go_wp2_with fail
              go_ret
              have hfin : partEqLoop ltInt a (a + 1) b' d0 = (i1, dk) := by rw [← HO.out]; exact partEq_break ltInt a i j dk HI2.out HJ2.out hc2n
              rw [HP.out, hfin]
              exact ⟨rfl, HR2.out, HK2.out.drewN _⟩
      · have hi2 : i1 = scanUp (fun x => !ltInt dk[a]! x) dk j i := by rw [← HSc.out]; exact (scanUp_end (fun x => !ltInt dk[a]! x) dk j i1 (Or.inl hc1)).symm
        have HI2 := Lib.hid hi2
        clear hi2
        have hc1i : ¬ ((i1 : Int) ≤ (j : Int)) := by omega
        have hc1d : decide ((i1 : Int) ≤ (j : Int)) = false := decide_eq_false hc1i
        go_wp2_with fail
        go_quiet (fail)
        go_wp2_with fail
        go_loopw [10] (fun vj wr3 => ∃ j1 : Nat, vj = .int .i64 j1 ∧ i1 ≤ j1 + 1 ∧ j1 ≤ j ∧ scanDown (fun x => ltInt dk[a]! x) dk i1 j1 = scanDown (fun x => ltInt dk[a]! x) dk i1 j ∧ RowU wr3 k dk rest ∧ Keep (fun x => x = k) w wr3) (fun vj _ => (intOf vj).toNat)
        case atStart => exact ⟨j, by first | rfl | (congr 1; omega), by omega, by omega, rfl, HR1.out.drewN _, HK1.out.drewN _⟩
        case round =>
          obtain ⟨j1, rfl, hj1, hj1j, hsc, hR2, hK2⟩ := hrel
          have HR2 := Lib.hid hR2
          have HK2 := Lib.hid hK2
          have HSc2 := Lib.hid hsc
          clear hR2 hK2 hsc
          have hj2 : j1 = scanDown (fun x => ltInt dk[a]! x) dk i1 j := by rw [← HSc2.out]; exact (scanDown_end (fun x => ltInt dk[a]! x) dk i1 j1 (Or.inl (by omega))).symm
          have HJ2 := Lib.hid hj2
          clear hj2
          have hc2i : ¬ ((i1 : Int) ≤ (j1 : Int)) := by omega
          have hc2d : decide ((i1 : Int) ≤ (j1 : Int)) = false := decide_eq_false hc2i
          have hc2b : (j1 : Int) < (i1 : Int) := by omega
          have hc2n : j1 < i1 := by omega
          have hc2k : ¬ i1 ≤ j1 := by omega
          have hc2m : decide (i1 ≤ j1) = false := decide_eq_false hc2k
          go_wp2_with fail
          go_quiet (fail)
          go_wp2_with fail
          go_ret
          have hfin : partEqLoop ltInt a (a + 1) b' d0 = (i1, dk) := by rw [← HO.out]; exact partEq_break ltInt a i j dk HI2.out HJ2.out hc2n
          rw [HP.out, hfin]
          exact ⟨rfl, HR2.out, HK2.out.drewN _⟩
end Go.Proofs.YtgmdedkingampaaGreat
