/-
  Package paxos: Tick of one that does not lead.
-/
import Derived.Test.YtgmdedkingampaaGreatPxP
set_option linter.unusedVariables false
set_option linter.unusedSimpArgs false
namespace Go.Proofs.YtgmdedkingampaaGreat
open Go.ChangeShapes Go.WideShapes Go.ChangeAt Go.RowKit Go.Maps
set_option maxRecDepth 1000000
set_option linter.unusedVariables false
set_option linter.unusedSimpArgs false

theorem next_gt {b n : Int} (hb : U1 b) (n0 : 0 ≤ n) (n1 : n < 32) (h : nextE b n = 0) : b < nextV b n ∧ U1 (nextV b n) := by
  unfold nextE at h
  unfold nextV
  by_cases hr : nextR b n < 576460752303423488
  · rw [if_pos hr]
    obtain ⟨h0, h1⟩ := hb
    unfold nextR at hr ⊢
    unfold U1
    split at hr <;> rename_i hm
    · rw [if_pos hm]; omega
    · rw [if_neg hm]; omega
  · rw [if_neg hr] at h; cases h
theorem max3_le {a b c : Int} : a ≤ max3 a b c ∧ b ≤ max3 a b c ∧ c ≤ max3 a b c := by
  unfold max3
  by_cases h1 : a < b <;> by_cases h2 : b < c <;> by_cases h3 : a < c <;> simp only [h1, h2, h3, if_true, if_false] <;> omega
theorem max3_four (a b c : Int) : ((if a < b then b else a) = b ∧ (if b < c then c else b) = c ∧ max3 a b c = c) ∨ ((if a < b then b else a) = b ∧ (if b < c then c else b) = b ∧ max3 a b c = b) ∨ ((if a < b then b else a) = a ∧ (if a < c then c else a) = c ∧ max3 a b c = c) ∨ ((if a < b then b else a) = a ∧ (if a < c then c else a) = a ∧ max3 a b c = a) := by
  unfold max3
  by_cases h1 : a < b
  · by_cases h2 : b < c
    · exact Or.inl ⟨if_pos h1, if_pos h2, by rw [if_pos h1, if_pos h2]⟩
    · exact Or.inr (Or.inl ⟨if_pos h1, if_neg h2, by rw [if_pos h1, if_neg h2]⟩)
  · by_cases h3 : a < c
    · exact Or.inr (Or.inr (Or.inl ⟨if_neg h1, if_pos h3, by rw [if_neg h1, if_pos h3]⟩))
    · exact Or.inr (Or.inr (Or.inr ⟨if_neg h1, if_neg h3, by rw [if_neg h1, if_neg h3]⟩))
theorem max3_u {a b c : Int} (ha : U1 a) (hb : U1 b) (hc : U1 c) : U1 (max3 a b c) := by
  unfold max3 U1 at *
  by_cases h1 : a < b <;> by_cases h2 : b < c <;> by_cases h3 : a < c <;> simp only [h1, h2, h3, if_true, if_false] <;> omega
section
variable {W w w' : World} {os : List Ob} {q : NdA} {f : NdF} {x : Nd}
theorem nd_elTick (h : SepW W w (ndOs q f x os)) (h0 : 1 ≤ x.lf ∧ x.lf ≤ 100001) : Calls Tryz.prog 39 #[.pointer (some ⟨q.el, 0, none⟩)] w fun e w' => e = .returned (.bool (decide (x.lf - 1 = 0))) ∧ SepW W w' (ndOs q f (elN x) os) :=
  h.elTick (t := x.t) (m := x.lf - 1) (top := x.top) 6 (by show some (obEl q.el x.t x.lf x.top) = _; rw [Int.sub_add_cancel]) (by omega) (by omega)
theorem SepW.numsU (h : SepW W w (ndOs q f x os)) : U1 x.A.promised ∧ U1 x.L.ballot ∧ U1 x.next := by
  obtain ⟨⟨b0, bm, n, _, h2, _⟩, _⟩ : AccO (.pointer q.ap) f.ac w x.NA x.A := h.get 3 rfl
  obtain ⟨⟨b1, ko, lo, n1, _, h3, _⟩, _⟩ : LeaO (.pointer q.lp) f.le w x.NL x.L := h.get 5 rfl
  obtain ⟨bm1, top, hL⟩ : LnO q.l0 f.ln x.nl w x.kn x.next := h.get 4 rfl
  refine ⟨h2.num.1, h3.num.1, hL.next.1, ?_⟩
  by_cases hz : x.next ≤ 18446744073709551615
  · exact hz
  · exfalso
    have h4 := hL.next.2.1 18446744073709551615 (by omega) (by omega)
    have h5 := hL.top.2.2.1 18446744073709551615 h4
    have h6 := hL.top.2.1
    omega
set_option maxHeartbeats 1000000 in
theorem nd_tickErr (h : SepW W w (ndOs q f x os)) (he : x.e ≠ 0) : Calls Tryz.prog 16 #[.pointer (some ⟨q.x, 0, none⟩)] w fun e w' => ∃ y ms, TickR x y ms ∧ RetH W q os y ms e w' := by
  obtain ⟨W0, hW0⟩ : ∃ y, y = w.alloc (.cells #[.pointer (some ⟨q.x, 0, none⟩)] 31) := ⟨_, rfl⟩
  have H := Lib.hid (show SepW W W0 (ndOs q f x (obBlk w.heap.size (.cells #[.pointer (some ⟨q.x, 0, none⟩)] 31) :: os)) by rw [hW0]; exact (h.newBlk _ _).behind)
  have HW := Lib.hid hW0
  have HE := Lib.hid he
  clear h hW0 he
  go_enter Tryz.func16, Tryz.ntmps16
  go_upto_region 1 with fail
  rw [← HW.out]
  generalize w.heap.size = B at *
  clear HW
  have bx := H.out.bxCell 8 rfl
  have HU := Lib.hid (nd_up H.out)
  rw [decide_eq_false HE.out] at HU
  go_wp2_with fail
  refine HU.out.mono ?_
  rintro e w1 ⟨rfl, rfl⟩
  clear HU
  go_wp2_with fail
  go_ret
  exact ⟨x, [], Or.inl ⟨HE.out, rfl, rfl⟩, RetH.nothing H.out.ahead.tail⟩
set_option maxHeartbeats 4000000 in
theorem nd_tickRun (h : SepW W w (ndOs q f x os)) (he : x.e = 0) (hl : x.L.stage ≠ 2) (hlf : 1 ≤ x.lf ∧ x.lf ≤ 100001) (hid : 0 ≤ x.id ∧ x.id < 32) (htop : U1 x.top) (hps : x.ps.length ≤ 7) (hN : x.NA < 1000000) (hr : Room x (noteB 1 [nextV (nextBal x) x.id] none).length) :
    Calls Tryz.prog 16 #[.pointer (some ⟨q.x, 0, none⟩)] w fun e w' => ∃ y ms, TickR x y ms ∧ RetH W q os y ms e w' := by
  obtain ⟨W0, hW0⟩ : ∃ y, y = w.alloc (.cells #[.pointer (some ⟨q.x, 0, none⟩)] 31) := ⟨_, rfl⟩
  have H := Lib.hid (show SepW W W0 (ndOs q f x (obBlk w.heap.size (.cells #[.pointer (some ⟨q.x, 0, none⟩)] 31) :: os)) by rw [hW0]; exact (h.newBlk _ _).behind)
  have HW := Lib.hid hW0
  have HE := Lib.hid he
  have HLs := Lib.hid hl
  have HId := Lib.hid hid
  have HR := Lib.hid hr
  have HNum := Lib.hid h.numsU
  have HTop := Lib.hid htop
  clear h hW0 he hl hid hr htop
  go_enter Tryz.func16, Tryz.ntmps16
  go_upto_region 1 with fail
  rw [← HW.out]
  generalize w.heap.size = B at *
  clear HW
  have bx := H.out.bxCell 8 rfl
  have HU := Lib.hid (nd_up H.out)
  rw [decide_eq_true HE.out] at HU
  go_wp2_with fail
  refine HU.out.mono ?_
  rintro e w1 ⟨rfl, rfl⟩
  clear HU
  obtain ⟨⟨-, -, -, -, -, c5, c6, -⟩, -⟩ := H.out.ndCell 0 rfl
  have HL := Lib.hid (H.out.leaLeads 5 rfl)
  rw [show (x.L.stage == 2) = false from beq_eq_false_iff_ne.2 HLs.out] at HL
  go_wp2_with fail
  refine HL.out.mono ?_
  rintro e w1 ⟨rfl, rfl⟩
  clear HL
  have HT := Lib.hid (nd_elTick H.out hlf)
  go_wp2_with fail
  refine HT.out.mono ?_
  rintro e w2 ⟨rfl, hs2⟩
  have HS2 := Lib.hid hs2
  clear hs2 HT H bx c5 c6
  by_cases hz : x.lf - 1 = 0
  · rw [decide_eq_true hz]
    have HZ := Lib.hid (show x.lf = 1 by omega)
    clear hz
    have hu3 : U1 (nextBal x) := max3_u HTop.out HNum.out.1 HNum.out.2.1
    have HU3 := Lib.hid hu3
    clear hu3
    go_upto_region 9 with fail
    go_cut [5, 6] from 7 (fun s5 s6 wc => s5 = .int .u64 (nextV (nextBal x) x.id) ∧ s6 = .int .i64 (nextE (nextBal x) x.id) ∧ SepW W wc (ndOs q f (elN x) (obBlk B (.cells #[.pointer (some ⟨q.x, 0, none⟩)] 31) :: os)))
    case first =>
      have bx := HS2.out.bxCell 8 rfl
      obtain ⟨⟨-, -, -, c3, -, c5, c6, -⟩, -⟩ := HS2.out.ndCell 0 rfl
      have c0 : w2.cell? ⟨q.x, 0, none⟩ = some (.int .i64 x.id) := (HS2.out.ndCell 0 rfl).1.1
      have HTp := Lib.hid (HS2.out.drew.elTopIs 6 rfl)
      have HPr := Lib.hid (HS2.out.drew.accPromised 3 rfl)
      have HBa := Lib.hid (HS2.out.drew.leaBallot 5 rfl)
      have HBn := Lib.hid (bnext_any w2.drew HU3.out HId.out.1 HId.out.2)
      have four := max3_four (elN x).top (elN x).A.promised (elN x).L.ballot
      rcases four with ⟨h1, h2, hv⟩ | ⟨h1, h2, hv⟩ | ⟨h1, h2, hv⟩ | ⟨h1, h2, hv⟩
      all_goals
        have HVx := Lib.hid (show nextBal x = _ from hv)
        rw [show nextBal x = _ from hv] at HBn
        have H1 := Lib.hid h1
        have H2 := Lib.hid h2
        clear hv h1 h2
        go_wp2_with fail
        have n1 := H1.out
        have n2 := H2.out
        go_region_held3 (fun w' => w'.cell? ⟨B, 0, none⟩ = some (.pointer (some ⟨q.x, 0, none⟩)) ∧ w'.cell? ⟨q.x, 0, none⟩ = some (.int .i64 x.id) ∧ w'.cell? ⟨q.x, 3, none⟩ = some (.pointer q.ap) ∧ w'.cell? ⟨q.x, 5, none⟩ = some (.pointer q.lp) ∧ w'.cell? ⟨q.x, 6, none⟩ = some (.pointer (some ⟨q.el, 0, none⟩))) (first | with_reducible exact hS3 | go_keep)
          (first
            | (go_at_call 41; (with_reducible refine HTp.out.mono ?_); rintro e w4 ⟨rfl, rfl⟩)
            | (go_at_call 42; (with_reducible refine HPr.out.mono ?_); rintro e w4 ⟨rfl, rfl⟩)
            | (go_at_call 37; (with_reducible refine HBa.out.mono ?_); rintro e w4 ⟨rfl, rfl⟩)
            | (go_at_call 40; (with_reducible refine HBn.out.mono ?_); rintro e w3 ⟨rfl, hb3⟩
               have hs3 := HS2.out.drew.step hb3
               have hS3 : w3.cell? ⟨B, 0, none⟩ = some (.pointer (some ⟨q.x, 0, none⟩)) ∧ w3.cell? ⟨q.x, 0, none⟩ = some (.int .i64 x.id) ∧ w3.cell? ⟨q.x, 3, none⟩ = some (.pointer q.ap) ∧ w3.cell? ⟨q.x, 5, none⟩ = some (.pointer q.lp) ∧ w3.cell? ⟨q.x, 6, none⟩ = some (.pointer (some ⟨q.el, 0, none⟩)) := ⟨hs3.bxCell 8 rfl, (hs3.ndCell 0 rfl).1.1, (hs3.ndCell 0 rfl).1.2.2.2.1, (hs3.ndCell 0 rfl).1.2.2.2.2.2.1, (hs3.ndCell 0 rfl).1.2.2.2.2.2.2.1⟩
               have HS3 := Lib.hid hs3
               clear hs3 hb3))
        all_goals
          go_wp2_with fail
          go_meet
          case rel => rw [HVx.out]; exact ⟨rfl, rfl, HS3.out⟩
    case rest =>
      obtain ⟨rfl, rfl, hs3⟩ := hcut
      have HS3 := Lib.hid hs3
      clear hs3 HS2
      by_cases hne : nextE (nextBal x) x.id = 0
      · rw [hne]
        have hgt := next_gt HU3.out HId.out.1 HId.out.2 hne
        have hle := @max3_le x.top x.A.promised x.L.ballot
        obtain ⟨b, hb⟩ : ∃ b, nextV (nextBal x) x.id = b := ⟨_, rfl⟩
        have hst : standN x = { elN x with A := ⟨b, x.A.low, x.A.l⟩ } := by unfold standN; rw [hb]
        have hpb : x.A.promised ≤ b := by have := hgt.1; rw [hb] at this; have h9 : x.A.promised ≤ nextBal x := hle.2.1; omega
        have hlb : x.L.ballot < b := by have := hgt.1; rw [hb] at this; have h9 : x.L.ballot ≤ nextBal x := hle.2.2; omega
        have hub : U1 b := by rw [← hb]; exact hgt.2
        have hsm := noteN_same (standN x) (noteB 1 [b] none)
        have hF : ∀ y ms, ((noteN (standN x) (noteB 1 [b] none)).e ≠ 0 ∧ y = noteN (standN x) (noteB 1 [b] none) ∧ ms = [] ∨ (noteN (standN x) (noteB 1 [b] none)).e = 0 ∧ y = ranN (noteN (standN x) (noteB 1 [b] none)) b ∧ ms = allO x.ps 7 b x.next []) → TickR x y ms := fun y ms h9 => Or.inr (Or.inr (Or.inr ⟨HE.out, HLs.out, HZ.out, hne, by rw [hb]; exact h9⟩))
        have HF := Lib.hid hF
        have HSt := Lib.hid hst
        have HLb := Lib.hid hlb
        have HUb := Lib.hid hub
        have HSm := Lib.hid hsm
        rw [hb] at HR ⊢
        have bx := HS3.out.bxCell 8 rfl
        obtain ⟨⟨-, -, -, c3, c4, -, -, -⟩, -⟩ := HS3.out.ndCell 0 rfl
        have HNx : Hid (Calls Tryz.prog 29 #[.pointer (some ⟨q.l0, 0, none⟩)] wc.drew fun e w' => e = .returned (.int .u64 x.next) ∧ wc.drew = w') := Lib.hid (HS3.out.drew.lnNext 4 rfl)
        have HPp := Lib.hid (HS3.out.drew.prepOk 3 rfl (x := b) (fr := x.next) hpb hub hN)
        clear hgt hle hb hst hpb hlb hub hsm hF hne
        go_wp2_with fail
        go_region_held3 (fun w' => w'.cell? ⟨B, 0, none⟩ = some (.pointer (some ⟨q.x, 0, none⟩)) ∧ w'.cell? ⟨q.x, 3, none⟩ = some (.pointer q.ap) ∧ w'.cell? ⟨q.x, 4, none⟩ = some (.pointer (some ⟨q.l0, 0, none⟩))) (first | with_reducible exact hS4 | go_keep)
          (first
            | (go_at_call 29; (with_reducible refine HNx.out.mono ?_); rintro e w4 ⟨rfl, rfl⟩)
            | (go_at_call 43; (with_reducible refine HPp.out.mono ?_); rintro e w4 ⟨ks, ao4, d4, vs4, hks, rfl, hs4⟩
               have hs4' : SepW W w4 (obVts (.slice ao4 (votL (elN x).A.l ks x.next).length d4) 80 vs4 (votL (elN x).A.l ks x.next) :: ndOs q f (standN x) (obBlk B (.cells #[.pointer (some ⟨q.x, 0, none⟩)] 31) :: os)) := by rw [HSt.out]; exact hs4
               have hS4 : w4.cell? ⟨B, 0, none⟩ = some (.pointer (some ⟨q.x, 0, none⟩)) ∧ w4.cell? ⟨q.x, 3, none⟩ = some (.pointer q.ap) ∧ w4.cell? ⟨q.x, 4, none⟩ = some (.pointer (some ⟨q.l0, 0, none⟩)) := ⟨hs4'.bxCell 9 rfl, (hs4'.ndCell 1 rfl).1.2.2.2.1, (hs4'.ndCell 1 rfl).1.2.2.2.2.1⟩
               have HS4 := Lib.hid hs4'.tail
               clear hs4 hs4' hks))
        all_goals
          clear hS4 bx c3 c4 HNx HPp HS3
          have bx := HS4.out.bxCell 8 rfl
          have hlit := (HS4.out.litRow [.int .u64 b] 39 (by simp)).behind
          have HNt := Lib.hid (nd_note hlit (kd := 1) (by decide) (ns := [b]) (Held.row 0 rfl) (by simpa using HUb.out) (by simp) (Held.nil (os := _)) (xs := []) (by intro z hz; cases hz) (by simp) false ⟨HR.out.free, HR.out.fit, HR.out.waits, HR.out.few, HR.out.e⟩ HE.out)
          simp only [Bool.false_eq_true, if_false] at HNt
          obtain ⟨y, hy⟩ : ∃ y, noteN (standN x) (noteB 1 [b] none) = y := ⟨_, rfl⟩
          rw [hy] at HNt HF HSm
          clear hlit hy
          go_wp2_with fail
          refine HNt.out.mono ?_
          rintro e w5 ⟨rfl, f5, hs5⟩
          have HS5 := Lib.hid hs5.ahead.tail
          clear hs5 HNt HS4 bx
          by_cases h0 : y.e = 0
          · rw [decide_eq_true h0]
            have H0 := Lib.hid h0
            have bx := HS5.out.bxCell 8 rfl
            obtain ⟨⟨-, -, -, -, c4, c5, -, -⟩, -⟩ := HS5.out.ndCell 0 rfl
            have HNx := Lib.hid (HS5.out.drew.lnNext 4 rfl)
            have hun := HS5.out.numsU.2.2
            have HBg := Lib.hid (HS5.out.drew.leaBegin 5 rfl (b := b) (fr := y.next) (by rw [HSm.out.2.2.2.2.2.2.2.2.1]; exact HLb.out) HUb.out hun)
            clear h0 hun
            go_wp2_with fail
            go_region_held3 (fun w' => w'.cell? ⟨B, 0, none⟩ = some (.pointer (some ⟨q.x, 0, none⟩)) ∧ w'.cell? ⟨q.x, 4, none⟩ = some (.pointer (some ⟨q.l0, 0, none⟩)) ∧ w'.cell? ⟨q.x, 5, none⟩ = some (.pointer q.lp)) (first | with_reducible exact hS6 | go_keep)
              (first
                | (go_at_call 29; (with_reducible refine HNx.out.mono ?_); rintro e w6 ⟨rfl, rfl⟩)
                | (go_at_call 45; (with_reducible refine HBg.out.mono ?_); rintro e w6 ⟨rfl, D6, hs6⟩
                   have hs6' : SepW W w6 (ndOs q { f5 with le := D6 } { y with L := beginL y.L b y.next, NL := 0 } (obBlk B (.cells #[.pointer (some ⟨q.x, 0, none⟩)] 31) :: os)) := hs6
                   have hS6 : w6.cell? ⟨B, 0, none⟩ = some (.pointer (some ⟨q.x, 0, none⟩)) ∧ w6.cell? ⟨q.x, 4, none⟩ = some (.pointer (some ⟨q.l0, 0, none⟩)) ∧ w6.cell? ⟨q.x, 5, none⟩ = some (.pointer q.lp) := ⟨hs6'.bxCell 8 rfl, (hs6'.ndCell 0 rfl).1.2.2.2.2.1, (hs6'.ndCell 0 rfl).1.2.2.2.2.2.1⟩
                   have HS6 := Lib.hid hs6'
                   clear hs6 hs6'))
            all_goals
              clear hS6 bx c4 c5 HNx HBg HS5
              have bx := HS6.out.bxCell 8 rfl
              obtain ⟨⟨-, -, -, -, -, -, c6, -⟩, -⟩ := HS6.out.ndCell 0 rfl
              have HHd := Lib.hid (nd_heard HS6.out b)
              go_wp2_with fail
              refine HHd.out.mono ?_
              rintro e w7 ⟨rfl, hs7⟩
              have HS7 : Hid (SepW W w7 (ndOs q { f5 with le := D6 } (ranN y b) (obBlk B (.cells #[.pointer (some ⟨q.x, 0, none⟩)] 31) :: os))) := Lib.hid hs7
              clear hs7 HHd bx c6 HS6
              have bx := HS7.out.bxCell 8 rfl
              have c1 : w7.cell? ⟨q.x, 1, none⟩ = some (.slice q.po y.ps.length q.pc) := (HS7.out.ndCell 0 rfl).1.2.1
              obtain ⟨⟨-, -, -, -, c4, -, -, -⟩, -⟩ := HS7.out.ndCell 0 rfl
              have HNx : Hid (Calls Tryz.prog 29 #[.pointer (some ⟨q.l0, 0, none⟩)] w7.drew fun e w' => e = .returned (.int .u64 y.next) ∧ w7.drew = w') := Lib.hid (HS7.out.drew.lnNext 4 rfl)
              have hrow : SlR w7.drew (.slice q.po y.ps.length q.pc) (i64s y.ps) := HS7.out.drew.row 7 rfl
              have HA := Lib.hid (all_any hrow (by rw [HSm.out.2.1]; show x.ps.length ≤ 100000; omega) 7 b y.next none 0 0)
              clear hrow
              go_wp2_with fail
              go_region_held3 (fun w' => w'.cell? ⟨B, 0, none⟩ = some (.pointer (some ⟨q.x, 0, none⟩)) ∧ w'.cell? ⟨q.x, 1, none⟩ = some (.slice q.po y.ps.length q.pc) ∧ w'.cell? ⟨q.x, 4, none⟩ = some (.pointer (some ⟨q.l0, 0, none⟩))) (first | with_reducible exact hS8 | go_keep)
                (first
                  | (go_at_call 29; (with_reducible refine HNx.out.mono ?_); rintro e w8 ⟨rfl, rfl⟩)
                  | (go_at_call 36; (with_reducible refine HA.out.mono ?_); rintro e w8 ⟨ao8, d8, rfl, ho8, hb8⟩
                     have hs8 := HS7.out.drew.step hb8
                     have hS8 : w8.cell? ⟨B, 0, none⟩ = some (.pointer (some ⟨q.x, 0, none⟩)) ∧ w8.cell? ⟨q.x, 1, none⟩ = some (.slice q.po y.ps.length q.pc) ∧ w8.cell? ⟨q.x, 4, none⟩ = some (.pointer (some ⟨q.l0, 0, none⟩)) := ⟨hs8.bxCell 8 rfl, (hs8.ndCell 0 rfl).1.2.1, (hs8.ndCell 0 rfl).1.2.2.2.2.1⟩
                     have HO8 := Lib.hid ho8
                     have HB8 := Lib.hid hb8
                     clear hs8 ho8 hb8))
              all_goals
                go_wp2_with fail
                go_ret
                have hps2 : y.ps = x.ps := HSm.out.2.1
                have hnx2 : y.next = x.next := HSm.out.2.2.2.2.2.2.1
                refine ⟨ranN y b, allO y.ps 7 b y.next [], HF.out _ _ (Or.inr ⟨H0.out, rfl, by rw [hps2, hnx2]⟩), ?_⟩
                exact RetH.all0 HS7.out.drew.ahead.tail HO8.out HB8.out
          · rw [decide_eq_false h0]
            have H0 := Lib.hid h0
            clear h0
            go_wp2_with fail
            go_ret
            exact ⟨y, [], HF.out _ _ (Or.inl ⟨H0.out, rfl, rfl⟩), RetH.nothing HS5.out.ahead.tail⟩
      · have hn0 : (nextE (nextBal x) x.id == 0) = false := beq_eq_false_iff_ne.2 hne
        have HNe := Lib.hid hne
        clear hne
        go_wp2_with fail
        go_ret
        exact ⟨elN x, [], Or.inr (Or.inr (Or.inl ⟨HE.out, HLs.out, Or.inr HNe.out, rfl, rfl⟩)), RetH.nothing HS3.out.ahead.tail⟩
  · rw [decide_eq_false hz]
    have HZ := Lib.hid (show x.lf ≠ 1 by omega)
    clear hz
    go_wp2_with fail
    go_ret
    exact ⟨elN x, [], Or.inr (Or.inr (Or.inl ⟨HE.out, HLs.out, Or.inl HZ.out, rfl, rfl⟩)), RetH.nothing HS2.out.ahead.tail⟩
end
end Go.Proofs.YtgmdedkingampaaGreat
