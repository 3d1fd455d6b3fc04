/-
  PaxosStrange: messages of strangers, and of kinds that aren't the log's, are told nothing, and change nothing; one that is none does nothing. No conditions.
-/
import Derived.Test.YtgmdedkingampaaGreatPxZf
import Derived.Test.YtgmdedkingampaaGreatFrame
set_option linter.unusedVariables false
set_option linter.unusedSimpArgs false
namespace Go.Proofs.YtgmdedkingampaaGreat
open Go.ChangeShapes Go.WideShapes Go.ChangeAt Go.RowKit Go.Maps
set_option maxRecDepth 1000000
set_option linter.unusedVariables false
set_option linter.unusedSimpArgs false

attribute [local go_sem ↓] ex_rowLoad
theorem own_eq (k : Int) : own k = (decide (7 ≤ k) && decide (k ≤ 13) || k == 18) := by
  unfold own
  rw [Bool.eq_iff_iff]
  simp
  omega
set_option maxHeartbeats 8000000 in
theorem paxosStrange_walk {x0 x2 : Int} {m : MsA} {vv bv : Value} (w0 : (Lit.int .i64 x0).wf = true) {W : World} (hm : MsOk m) (hv : SlR W vv (m.vec.map (Value.int .u64))) (hb : SlR W bv (u8s m.body)) (wx2 : (Lit.int .i64 x2).wf = true) :
    Calls Tryz.prog 5 #[.int .i64 x0, .agg (msC m.k m.b m.s (m.o vv) bv), .int .i64 x2] W fun e W' => e = .returned (.bool true) ∧ Below W.heap.size W W' := by
  simp [Lit.wf, IntKind.min, IntKind.max, IntKind.signed, IntKind.bits] at w0 wx2
  have HM := Lib.hid hm
  have HX2 := Lib.hid wx2
  have HBv := Lib.hid hb
  obtain ⟨vo, vc, rfl, _, _⟩ := hv.form
  obtain ⟨bo, bc, rfl, _, _⟩ := hb.form
  simp only [List.length_map] at *
  have hs0 := (SepW.nil (Below.refl W.heap.size W)).newBlk (msC m.k m.b m.s (m.o (.slice vo m.vec.length vc)) (.slice bo m.body.length bc)) 42
  have HS0 := Lib.hid hs0
  have HAw := Lib.hid (awake_any (W.alloc (.cells (msC m.k m.b m.s (m.o (.slice vo m.vec.length vc)) (.slice bo m.body.length bc)) 42)))
  generalize hp : W.heap.size = p0 at HS0
  clear hm hb hv hs0 wx2
  go_enter Tryz.func5, Tryz.ntmps5
  go_wp2_with fail
  refine HAw.out.mono ?_
  rintro e w1 ⟨rfl, hb1⟩
  have HS1 := Lib.hid (HS0.out.step hb1)
  have HP := Lib.hid hp
  have d9 : w1.cell? ⟨p0, 9, none⟩ = some (.slice vo m.vec.length vc) := (HS1.out.blk 0 rfl 9 _ rfl).1
  have d10 : w1.cell? ⟨p0, 10, none⟩ = some (.slice bo m.body.length bc) := (HS1.out.blk 0 rfl 10 _ rfl).1
  clear hb1 HS0 HAw hp
  by_cases hlen : m.vec.length ≤ 20 ∧ m.body.length ≤ 100
  rotate_left
  · by_cases h20 : m.vec.length ≤ 20
    · have hli : decide ((20 : Int) < (m.vec.length : Int)) = false := decide_eq_false (by omega)
      have hlj : (100 : Int) < (m.body.length : Int) := by omega
      go_wp2_with fail
      go_ret
      exact ⟨rfl, by rw [← HP.out]; exact HS1.out.below⟩
    · have hli : (20 : Int) < (m.vec.length : Int) := by omega
      go_wp2_with fail
      go_ret
      exact ⟨rfl, by rw [← HP.out]; exact HS1.out.below⟩
  obtain ⟨hl0, hl1⟩ := hlen
  have hli : decide ((20 : Int) < (m.vec.length : Int)) = false := decide_eq_false (by omega)
  have hlj : decide ((100 : Int) < (m.body.length : Int)) = false := decide_eq_false (by omega)
  have HMa := Lib.hid (cl_made HS1.out (n := 3) (by decide))
  rw [show ((3 : Nat) : Int) = 3 from rfl] at HMa
  have HL1 := Lib.hid hl1
  clear hl0 hl1
  go_wp2_with fail
  refine HMa.out.mono ?_
  rintro e w2 ⟨c, dv, nv, qs, rfl, ⟨mv, L, M, B, h1, h2, h3, h4, h5⟩, hq⟩
  have hL3 : L.length = 3 := by rw [← hq, ← h3, List.length_map]
  obtain ⟨gd, dc, rfl⟩ := row_form (h1.get 3 rfl : w2.ownsRow 0 53 1 dv L.length (diskV L)) (by omega)
  obtain ⟨gn, nc, rfl⟩ := row_form (h1.get 2 rfl : w2.ownsRow 0 31 1 nv L.length (nodeV L)) (by omega)
  obtain ⟨p, hp0⟩ : ∃ p, L[0]? = some p := ⟨_, List.getElem?_eq_getElem (by omega)⟩
  obtain ⟨q, f, x⟩ := p
  have hx : x = newNd 0 (psN 3) 400 400 2 := by
    have e1 : (xOf L)[0]? = some x := by unfold xOf; rw [List.getElem?_map, hp0]; rfl
    rw [h4, newXs_at (by decide)] at e1
    cases e1; rfl
  have hfoc := SepW.focus (pre := [_, _, _, _, _]) h1 hp0
  obtain ⟨OS, hOS⟩ : ∃ OS, [obBlk c (.cells (clC L.length (.slice (some ⟨gd, 0, none⟩) L.length dc) (.slice (some ⟨gn, 0, none⟩) L.length nc) mv) 36), obRow mv 44 13 M.length (mailC M), obRow (.slice (some ⟨gn, 0, none⟩) L.length nc) 31 1 L.length (nodeV L), obRow (.slice (some ⟨gd, 0, none⟩) L.length dc) 53 1 L.length (diskV L), obBod B] ++ (ndsOs (L.eraseIdx 0) ++ [obBlk p0 (.cells (msC m.k m.b m.s (m.o (.slice vo m.vec.length vc)) (.slice bo m.body.length bc)) 42)]) = OS := ⟨_, rfl⟩
  have hC : StC OS c gd dc gn nc mv L p0 (msC m.k m.b m.s (m.o (.slice vo m.vec.length vc)) (.slice bo m.body.length bc)) := by
    subst hOS
    exact ⟨rfl, rfl, rfl, List.mem_append_right _ (List.mem_append_right _ (List.mem_singleton.2 rfl))⟩
  rw [hOS] at hfoc
  have HC := Lib.hid hC
  have HP0 := Lib.hid hp0
  have HS2 : Hid (SepW W w2 (ndOs q f x OS)) := Lib.hid hfoc
  have HX := Lib.hid hx
  clear hOS h1 h2 h3 h4 h5 hq HMa HS1 hp0 hfoc hx d9 d10 hli hlj
  clear hC
  obtain ⟨c1, c2, hbox⟩ := HC.out.cells (ndOs q f x []) HS2.out
  obtain ⟨n1, n2⟩ := HC.out.at (ndOs q f x []) HS2.out HP0.out
  rw [hL3] at c1 c2
  have k0 : w2.cell? ⟨p0, 0, none⟩ = some (.int .i64 m.k) := by simp [World.cell?, hbox]
  have HBox := Lib.hid hbox
  clear hbox
  go_upto_region 9 with fail
  go_cut [9] (fun s9 wx => (∃ ow, s9 = .bool ow ∧ Hid (ow = own m.k)) ∧ wx = w2)
  case first =>
    have ho := own_eq m.k
    generalize own m.k = ow at *
    have HO := Lib.hid ho
    clear ho
    cases q1 : decide (7 ≤ m.k)
    · go_wp2_with fail
      go_meet
      exact ⟨⟨_, rfl, Lib.hid (by rw [HO.out, q1]; simp)⟩, rfl⟩
    · cases q2 : decide (m.k ≤ 13)
      · go_wp2_with fail
        go_meet
        exact ⟨⟨_, rfl, Lib.hid (by rw [HO.out, q1, q2]; simp)⟩, rfl⟩
      · go_wp2_with fail
        go_meet
        exact ⟨⟨_, rfl, Lib.hid (by rw [HO.out, q1, q2]; simp)⟩, rfl⟩
  case rest =>
  obtain ⟨⟨ow, rfl, HOw⟩, rfl⟩ := hcut
  go_upto_region 10 with fail
  go_cut [10] (fun s10 wx => (∃ kn, s10 = .bool kn ∧ Hid (kn = decide (0 ≤ x0 ∧ x0 < 3))) ∧ wx = wc)
  case first =>
    cases q1 : decide (0 ≤ x0)
    · go_wp2_with fail
      go_meet
      exact ⟨⟨_, rfl, Lib.hid (by have := of_decide_eq_false q1; exact (decide_eq_false (by omega)).symm)⟩, rfl⟩
    · go_wp2_with fail
      go_meet
      exact ⟨⟨_, rfl, Lib.hid (by have := of_decide_eq_true q1; simp [this])⟩, rfl⟩
  case rest =>
  obtain ⟨⟨kn, rfl, HKn⟩, rfl⟩ := hcut
  as_aux_lemma =>
    have HWt := Lib.hid (HS2.out.dkWaits 1 rfl)
    rw [show x.d.waits.length = 0 by rw [HX.out]; rfl] at HWt
    have HHd := Lib.hid (nd_handle (M := 100) HS2.out.drew (fun _ => by rw [HX.out]; exact newNd_ok 0 (by decide)) (k := m.k) (b := m.b) (s := m.s) (m.o (.slice vo m.vec.length vc)) (bv := .slice bo m.body.length bc) (xs := m.body) x0 HM.out.b HM.out.s (Held.arg HBv.out) HM.out.body HL1.out HM.out.k)
    have hld : ∀ w' : World, w'.heap[p0]? = some (.cells (msC m.k m.b m.s (m.o (.slice vo m.vec.length vc)) (.slice bo m.body.length bc)) 42 (0, 0)) → (rowLoad 42 (.pointer (some ⟨p0, 0, none⟩))).run Tryz.prog w' = .ok (.agg (msC m.k m.b m.s (m.o (.slice vo m.vec.length vc)) (.slice bo m.body.length bc))) w' := fun w' hS => by
      have h9 := run_rowLoad (P := Tryz.prog) (w := w') 42 p0 0 (msC m.k m.b m.s (m.o (.slice vo m.vec.length vc)) (.slice bo m.body.length bc)).toList _ (fun t u ht => by
        have h := World.news_of_block hS t u ht
        rw [Nat.zero_add]
        rwa [Addr.add_mid, Nat.zero_add] at h) Tryz.underlying42 rfl (by kernel_rfl)
      exact h9
    have HLd := Lib.hid hld
    have hld0 := hld _ HBox.out
    have hld1 := hld wc.drew HBox.out
    have hmk : RowMark 42 := ⟨trivial⟩
    clear hld
    go_wp2_with fail
    refine HWt.out.mono ?_
    rintro e w3 ⟨rfl, rfl⟩
    clear HWt c1 n1 k0
    go_wp2_with fail
    go_region_held3 (fun w' => w'.cell? ⟨c, 2, none⟩ = some (.slice (some ⟨gn, 0, none⟩) 3 nc) ∧ w'.cell? ⟨gn, 0, none⟩ = some (.pointer (some ⟨q.x, 0, none⟩)) ∧ (rowLoad 42 (.pointer (some ⟨p0, 0, none⟩))).run Tryz.prog w' = .ok (.agg (msC m.k m.b m.s (m.o (.slice vo m.vec.length vc)) (.slice bo m.body.length bc))) w') (first | with_reducible exact hS8 | go_keep)
      (first
        | (go_at_call 19; (with_reducible refine HHd.out.mono ?_); rintro e w8 ⟨y, ms, hhr, v8, l8, f8, rfl, hl8, hs8⟩
           have hb8 : SepW W w8 (obRow v8 85 12 l8.length (outC l8) :: obBod (l8.map fun p => (p.2, p.1.body)) :: ndOs q f8 y OS) := hs8
           obtain ⟨c1, c2, hbox⟩ := HC.out.cells (obRow v8 85 12 l8.length (outC l8) :: obBod (l8.map fun p => (p.2, p.1.body)) :: ndOs q f8 y []) hb8
           obtain ⟨n1, n2⟩ := HC.out.at (obRow v8 85 12 l8.length (outC l8) :: obBod (l8.map fun p => (p.2, p.1.body)) :: ndOs q f8 y []) hb8 HP0.out
           rw [hL3] at c1 c2
           have hS8 : w8.cell? ⟨c, 2, none⟩ = some (.slice (some ⟨gn, 0, none⟩) 3 nc) ∧ w8.cell? ⟨gn, 0, none⟩ = some (.pointer (some ⟨q.x, 0, none⟩)) ∧ (rowLoad 42 (.pointer (some ⟨p0, 0, none⟩))).run Tryz.prog w8 = .ok (.agg (msC m.k m.b m.s (m.o (.slice vo m.vec.length vc)) (.slice bo m.body.length bc))) w8 := ⟨c2, n2, HLd.out _ hbox⟩
           have HHr := Lib.hid hhr
           have HL8 := Lib.hid hl8
           have HS8 := Lib.hid hb8
           clear hs8 hb8 hhr hl8 hbox)
        | fail)
    clear hmk hS8 hld0 hld1
    have HI8 := Lib.hid (idle_handle (by rw [HX.out]; exact (newNd_fine 0 (psN 3)).mono (by decide)) (by rw [HX.out]; exact newNd_idle 0 (psN 3)) HL1.out HHr.out)
    obtain ⟨vo8, vc8, rfl, -, -⟩ := own_form (HS8.out.get 0 rfl : w8.ownsRow 0 85 12 v8 l8.length (outC l8))
    have HW8 := Lib.hid (HS8.out.dkWaits 3 rfl)
    have HN8 := Lib.hid (nd_next HS8.out.tail.tail)
    have H9 : Hid (SepW W w8 (ndOs q f8 y OS)) := Lib.hid HS8.out.tail.tail
    have HK : Hid ((own m.k = false ∨ x0 ∉ psN 3) → l8.length = 0 ∧ y.d.waits.length = 0 ∧ y.next = 0) := Lib.hid (fun hno => by
      obtain ⟨e1, e2⟩ := HI8.out.2.2.2.2 (hno.elim Or.inl (fun e => Or.inr (by rw [HX.out]; exact e)))
      have e3 := congrArg List.length HL8.out
      rw [e2, List.length_map] at e3
      refine ⟨e3, by rw [e1, HX.out]; rfl, by rw [e1, HX.out]; rfl⟩)
    generalize l8.length = n8 at *
    go_upto_region 13 with fail
    go_cut [112] (fun s wx => s = .bool false ∧ wx = w8)
    case first =>
      by_cases hno : own m.k = false ∨ x0 ∉ psN 3
      · obtain ⟨k1, k2, k3⟩ := HK.out hno
        rw [k2] at HW8
        rw [k3] at HN8
        subst k1
        clear HK k2 k3 HS8 HI8 HHr
        cases ow with
        | false =>
          clear hno
          go_wp2_with fail
          refine HW8.out.mono ?_
          rintro e w9 ⟨rfl, rfl⟩
          go_wp2_with fail
          refine HN8.out.mono ?_
          rintro e w9 ⟨rfl, rfl⟩
          go_wp2_with fail
          go_meet
          exact ⟨rfl, rfl⟩
        | true =>
          obtain rfl : kn = false := by
            rw [HKn.out]
            refine decide_eq_false (fun h => ?_)
            rcases hno with e | e
            · rw [← HOw.out] at e; cases e
            · exact e ((psN_mem3 x0).2 h)
          clear hno
          go_wp2_with fail
          refine HW8.out.mono ?_
          rintro e w9 ⟨rfl, rfl⟩
          go_wp2_with fail
          refine HN8.out.mono ?_
          rintro e w9 ⟨rfl, rfl⟩
          go_wp2_with fail
          go_meet
          exact ⟨rfl, rfl⟩
      · obtain rfl : ow = true := by
          cases ow with
          | true => rfl
          | false => exact absurd (Or.inl HOw.out.symm) hno
        obtain rfl : kn = true := by
          rw [HKn.out]
          exact decide_eq_true ((psN_mem3 x0).1 (Classical.byContradiction (fun e => hno (Or.inr e))))
        clear hno HK HS8 HI8 HHr
        go_wp2_with fail
        go_meet
        exact ⟨rfl, rfl⟩
    case rest =>
    obtain ⟨rfl, rfl⟩ := hcut
    have HIx := Lib.hid HI8.out
    as_aux_lemma =>
      clear HI8 HHr HK HS8 HL8 HW8 HN8 c1 c2 n1 n2 HHd HS2
      have HDn := Lib.hid (H9.out.dkNew (n := 8) (by decide))
      rw [show ((8 : Nat) : Int) = 8 from rfl] at HDn
      go_wp2_with fail
      refine HDn.out.mono ?_
      rintro e wA ⟨b1, D1, rfl, hsA⟩
      have HSA := Lib.hid hsA
      have HPe := Lib.hid (peers_any wA 3 (by decide))
      rw [show ((3 : Nat) : Int) = 3 from rfl] at HPe
      clear hsA HDn H9
      go_wp2_with fail
      refine HPe.out.mono ?_
      rintro e wB ⟨pv, rfl, hoB, hbB⟩
      have HSB := Lib.hid (HSA.out.step hbB)
      have HO1 := Lib.hid (nd_openNo (.pointer (some ⟨b1, 0, none⟩)) 0 8 3 1 (SlR.of_own hoB) (Or.inr not_in3))
      clear hoB hbB HPe HSA
      go_wp2_with fail
      refine HO1.out.mono ?_
      rintro e w' ⟨rfl, rfl⟩
      clear HO1
      have HSC := Lib.hid (HSB.out.step (below_lit wB (.cells #[.int .i64 1, .int .i64 0] 3)))
      have HO2 := Lib.hid (nd_openNo (.pointer (some ⟨b1, 0, none⟩)) 0 8 0 1 (SlR.of_own (own_lit wB (i64s [1, 0]) 3 (by decide))) (Or.inl bad_right))
      go_wp2_with fail
      refine HO2.out.mono ?_
      rintro e w' ⟨rfl, rfl⟩
      clear HO2 HSB
      go_upto_region 18 with fail
      generalize wB.alloc (.cells #[.int .i64 1, .int .i64 0] 3) = wC at *
      go_cut [19, 20] (fun s19 s20 wx => ∃ er : Int, s20 = .int .i64 er ∧ Hid ((er = 0 ∧ x2 = 0) ∨ (er = 1 ∧ x2 ≠ 0)) ∧ Hid (SepW W wx (ndOs q f8 y OS)))
      case first =>
        have HPe := Lib.hid (peers_any wC 1 (by decide))
        rw [show ((1 : Nat) : Int) = 1 from rfl] at HPe
        by_cases hx2 : x2 = 0
        · subst hx2
          go_wp2_with fail
          refine HPe.out.mono ?_
          rintro e wD ⟨pv2, rfl, hoD, hbD⟩
          have hsD := (HSC.out.newRow hoD hbD).swap
          have HO3 := Lib.hid (nd_open (N := 8) (n := 8) (ps := psN 1) (id := 0) (pat := 1) hsD (Held.row 1 rfl) (psN_right (by decide)) (psN_mem (k := 0) (by decide)) (by decide) (by decide) (by decide))
          rw [show ((8 : Nat) : Int) = 8 from rfl] at HO3
          clear hsD hoD hbD HPe HSC
          go_wp2_with fail
          refine HO3.out.mono ?_
          rintro e wE ⟨q2, f2, rfl, -, hsE⟩
          have HSE := Lib.hid (SepW.dropB (pre := []) (l := ndOs q2 f2 (newNd 0 (psN 1) 8 8 1) [obRow pv2 3 1 1 (i64s (psN 1))]) hsE)
          clear hsE HO3
          go_wp2_with fail
          go_meet
          exact ⟨0, rfl, Lib.hid (by simp), HSE⟩
        · have HNz := Lib.hid hx2
          clear hx2
          go_wp2_with fail
          refine HPe.out.mono ?_
          rintro e wD ⟨pv2, rfl, hoD, hbD⟩
          have HO3 := Lib.hid (nd_openBad (HSC.out.step hbD) (dv := .pointer (some ⟨b1, 0, none⟩)) (fr := x2) (n := 8) (id := 0) (pat := 1) (SlR.of_own hoD) (psN_right (by decide)) (psN_mem (k := 0) (by decide)) (by decide)
            (fun w1 o h => h.sgOpenNo 1 rfl (by decide) (by decide) (by have := HNz.out; show x2 < 0 ∨ (8 : Int) < x2 + 8; omega)))
          clear hoD hbD HPe HSC
          go_wp2_with fail
          refine HO3.out.mono ?_
          rintro e wE ⟨rfl, hsE⟩
          have HSE := Lib.hid hsE.tail
          clear hsE HO3
          go_wp2_with fail
          go_meet
          exact ⟨1, rfl, Lib.hid (Or.inr ⟨rfl, HNz.out⟩), HSE⟩
      case rest =>
      obtain ⟨er, rfl, HEr, HSD⟩ := hcut
      as_aux_lemma =>
        have HPe := Lib.hid (peers_any wc 1 (by decide))
        rw [show ((1 : Nat) : Int) = 1 from rfl] at HPe
        go_wp2_with fail
        refine HPe.out.mono ?_
        rintro e wF ⟨pv2, rfl, hoD, hbD⟩
        have HO3 := Lib.hid (nd_openBad (HSD.out.step hbD) (dv := .pointer none) (fr := 0) (n := 8) (id := 0) (pat := 1) (SlR.of_own hoD) (psN_right (by decide)) (psN_mem (k := 0) (by decide)) (by decide) (fun w1 o h => no_seg w1 0 8))
        clear hoD hbD HPe HSD
        go_wp2_with fail
        refine HO3.out.mono ?_
        rintro e wG ⟨rfl, hsG⟩
        have HSG := Lib.hid hsG
        clear hsG HO3
        go_wp2_with fail
        refine (no_prop _ _).mono ?_
        rintro e w' ⟨rfl, rfl⟩
        go_wp2_with fail
        refine (no_value _ _).mono ?_
        rintro e w' ⟨rfl, rfl⟩
        obtain ⟨-, c2, -⟩ := HC.out.cells (ndOs q f8 y []) HSG.out
        obtain ⟨-, n2⟩ := HC.out.at (ndOs q f8 y []) HSG.out HP0.out
        rw [hL3] at c2
        have HPr := Lib.hid (nd_propose HSG.out (bv := .slice none 0 0) (xs := []) Held.nil (by intro z hz; cases hz) (by decide) (by rw [HIx.out.2.2.1, HX.out]; decide) (by rw [HIx.out.2.2.2.1, HX.out]; decide))
        go_wp2_with fail
        refine HPr.out.mono ?_
        rintro e wH ⟨z, ms2, e2, hpr, v9, l9, f9, rfl, -, hsH⟩
        obtain rfl : e2 = 33 := by
          rcases hpr with ⟨h1, _⟩ | ⟨_, v, h1, _⟩
          · exact absurd HIx.out.1 h1
          · have hst := HIx.out.2.1
            rcases h1 with ⟨_, _, _, h4⟩ | ⟨h1, _⟩ | ⟨h1, _⟩
            · exact h4
            · omega
            · omega
        have hbox := (HC.out.cells (outOs v9 l9 (ndOs q f9 z [])) hsH).2.2
        have HBl := Lib.hid hsH.below
        clear hsH HPr HSG c2 n2 hpr
        rcases HEr.out with ⟨rfl, hx⟩ | ⟨rfl, hx⟩
        · subst hx
          clear HEr
          go_wp2_with (first
            | (refine wpList_loadRowW (by kernel_rfl) 42 (.tmp 4) rfl p0 _ 42 hbox rfl _ Tryz.underlying42 rfl (by kernel_rfl) ?_)
            | fail)
          refine (no_handle wH 0 m.k m.b m.s (m.o (.slice vo m.vec.length vc)) (.slice bo m.body.length bc)).mono ?_
          rintro e wI ⟨rfl, hbI⟩
          have HB2 := Lib.hid (HBl.out.trans (hbI.mono HBl.out.size))
          clear hbI hbox
          go_wp2_with fail
          refine (no_tick wI).mono ?_
          rintro e wJ ⟨rfl, hbJ⟩
          have HB3 := Lib.hid (HB2.out.trans (hbJ.mono HB2.out.size))
          clear hbJ
          go_wp2_with fail
          refine (no_next wJ).mono ?_
          rintro e w' ⟨rfl, rfl⟩
          go_wp2_with fail
          refine (no_leads _).mono ?_
          rintro e w' ⟨rfl, rfl⟩
          go_wp2_with fail
          refine (no_err _).mono ?_
          rintro e w' ⟨rfl, rfl⟩
          go_wp2_with fail
          go_ret
          exact ⟨rfl, by rw [← HP.out]; exact HB3.out⟩
        · have hxz : (x2 == 0) = false := beq_eq_false_iff_ne.2 hx
          clear HEr hx
          go_wp2_with (first
            | (refine wpList_loadRowW (by kernel_rfl) 42 (.tmp 4) rfl p0 _ 42 hbox rfl _ Tryz.underlying42 rfl (by kernel_rfl) ?_)
            | fail)
          refine (no_handle wH 0 m.k m.b m.s (m.o (.slice vo m.vec.length vc)) (.slice bo m.body.length bc)).mono ?_
          rintro e wI ⟨rfl, hbI⟩
          have HB2 := Lib.hid (HBl.out.trans (hbI.mono HBl.out.size))
          clear hbI hbox
          go_wp2_with fail
          refine (no_tick wI).mono ?_
          rintro e wJ ⟨rfl, hbJ⟩
          have HB3 := Lib.hid (HB2.out.trans (hbJ.mono HB2.out.size))
          clear hbJ
          go_wp2_with fail
          refine (no_next wJ).mono ?_
          rintro e w' ⟨rfl, rfl⟩
          go_wp2_with fail
          refine (no_leads _).mono ?_
          rintro e w' ⟨rfl, rfl⟩
          go_wp2_with fail
          refine (no_err _).mono ?_
          rintro e w' ⟨rfl, rfl⟩
          go_wp2_with fail
          go_ret
          exact ⟨rfl, by rw [← HP.out]; exact HB3.out⟩
theorem paxosStrange_holds : Rows.PaxosStrangeSaid :=
  OpenClaim.holds_of_wide 5 Tryz.f5 rfl rfl rfl rfl rfl rfl rfl ⟨rfl, rfl, rfl, rfl, rfl⟩ rfl rfl rfl rfl rfl (by kernel_rfl) Tryz.func5 (by kernel_rfl)
    (of_decide_eq_true (by kernel_rfl)) (by unfold Func.isWrapper; rw [if_neg (by decide +kernel)]; exact ⟨rfl, rfl⟩)
    (fun os started H enc _ => law_frame (C := Tryz.checked) (fn := Tryz.f5) (s := Rows.paxosStrangeSpec) (tb := 4) Tryz.own started (by kernel_rfl) Tryz.func5 Tryz.laidOut rfl (by kernel_rfl) Tryz.underlying4 (by kernel_rfl)
      (fun ds hd => by match ds, hd with | [_, _, _], _ => exact ⟨rfl, rfl, rfl⟩)
      (ChangeSpec.witness6 (enc := enc) (C := Tryz.checked) false ⟨#[], #[.int .i64 0, .agg #[.int .i64 0, .int .u64 0, .int .u64 0, .int .i64 0, .int .i64 0, .int .u64 0, .int .u64 0, .int .u64 0, .int .i64 0, .slice none 0 0, .slice none 0 0], .int .i64 0], []⟩ 8 (by kernel_rfl) (by kernel_rfl) (by kernel_rfl) (by kernel_rfl))
      (fun W base args ds p hval0 hA0 _ => by
        have hval : ∀ (j : Nat) t v, Tryz.f5.params[j]? = some t → args[j]? = some v → Value.okWide Tryz.prog W .any base t v := hval0
        have hA : DataW.TrodAll enc Tryz.prog W 0 (fun _ => true) true Tryz.f5.params.toList args.toList ds p := hA0
        rw [Tryz.params5] at hA hval
        obtain ⟨v0, v1, v2, d0, d1, d2, p0, p1, p2, rfl, rfl, rfl, h0, h1, h2⟩ := trodAll_three hA
        obtain ⟨x0, rfl, rfl, rfl, wx0⟩ := open_int Tryz.underlying3 (hval 0 3 v0 rfl rfl) h0
        obtain ⟨m1, vv1, bv1, rfl, wm1, hv1, hb1⟩ := Tryz.msg_open (hval 1 42 v1 rfl rfl) h1
        obtain ⟨x2, rfl, rfl, rfl, wx2⟩ := open_int Tryz.underlying3 (hval 2 3 v2 rfl rfl) h2
        exact paxosStrange_walk wx0 wm1 hv1 hb1 wx2))

end Go.Proofs.YtgmdedkingampaaGreat
