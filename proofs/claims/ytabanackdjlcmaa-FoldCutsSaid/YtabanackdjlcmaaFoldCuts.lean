/-
  FoldCuts: of any two rows of up to 8 bytes: two cuts give just the records that are new positions, row by row, segment by segment, in order. No condition: every input.
-/
import Derived.Test.YtabanackdjlcmaaCutsP
import Derived.Test.YtabanackdjlcmaaSpans
import Derived.Test.YtabanackdjlcmaaFoldTrims
import Derived.Test.YtabanackdjlcmaaRegU
import Derived.Test.YtabanackdjlcmaaFrame
import Derived.Laws.StructEq
import Derived.Deep.OwnRows
import Derived.Laws.BitsLemmas
namespace Go.Proofs.Ytabanackdjlcmaa
open Go.ChangeShapes Go.WideShapes Go.ChangeAt Go.RowKit Go.Maps
set_option maxRecDepth 100000

/-- A state, as a thing. -/
def obFold (p : Value) (D : Nat → Prop) (N : Nat) (F : FS) : Ob := ⟨D, fun w => FoldO p D w N F⟩
theorem obFold_good (p : Value) (D : Nat → Prop) (N : Nat) (F : FS) : (obFold p D N F).Good :=
  ⟨fun {S w w'} h hk hs => by obtain ⟨b0, bs, bt, n, lv, h1, h2, h3⟩ := h; exact ⟨b0, bs, bt, n, lv, h1, h2.keep hk hs, h3⟩, fun {w} h k hk => FoldO.lt h k hk⟩
theorem sep_start {W w : World} {p : Value} {N : Nat} {F : FS} (h : FoldW W p w N F) : ∃ D, Sep W.heap.size w [obFold p D N F] := by
  obtain ⟨D, h1, h2, h3⟩ := h
  refine ⟨D, ⟨fun o ho => ?_, fun o ho => ?_, fun o ho k hk => ?_, List.pairwise_singleton _ _, h3.size⟩⟩
  · simp at ho; subst ho; exact obFold_good ..
  · simp at ho; subst ho; exact h1
  · simp at ho; subst ho; exact h2 k hk
theorem sep_len {B : Nat} {w : World} {os : List Ob} {p : Value} {D : Nat → Prop} {N : Nat} {F : FS} (h : Sep B w (obFold p D N F :: os)) : Calls Try.prog 26 #[p] w fun e w' => e = .returned (.int .u64 F.n) ∧ w = w' :=
  FoldO.len (h.get 0 rfl)
theorem sep_spans {B : Nat} {w : World} {os : List Ob} {p : Value} {D : Nat → Prop} {N : Nat} {F : FS} (h : Sep B w (obFold p D N F :: os)) (hl : F.l.length ≤ 1000000000) :
    Calls Try.prog 29 #[p] w fun e w' => ∃ ao c, e = .returned (.slice ao F.l.length c) ∧ Sep B w' (obRow (.slice ao F.l.length c) 60 5 F.l.length (spC F.l) :: obFold p D N F :: os) ∧ Below w.heap.size w w' := by
  obtain ⟨b0, bs, bt, n, lv, rfl, h2, h3⟩ := h.get 0 rfl
  refine (spans_any h2 hl).mono ?_
  rintro e w' ⟨v, rfl, hown, hb⟩
  obtain ⟨ao, c, hv, _, _⟩ := own_form hown
  subst hv
  exact ⟨ao, c, rfl, h.new hb (obRow_good ..) (hown.weaken (Nat.zero_le _)) (fun k hk => (hown.lt k hk).1), hb⟩
theorem sep_cut {B : Nat} {w : World} {os : List Ob} {p : Value} {D : Nat → Prop} {N : Nat} {F : FS} (h : Sep B w (obFold p D N F :: os)) {i : Nat} {v : Value} {vs : List Value} {rs : Rw} (hr : os[i]? = some (obRws v 37 vs rs)) (hl : rs.length ≤ 8) (hok : rowsB rs = true) (hu : ∀ r ∈ rs, U64 r.2) (hFl : F.l.length ≤ 1000000000) (hN : N ≤ 900000000) :
    Calls Try.prog 25 #[p, .agg #[.int .i64 4, .int .u64 0, .int .u64 0, .int .i64 0, .int .i64 0, .int .u64 0, v]] w fun e w' => e = .returned (.int .i64 (cutE F rs)) ∧ (∃ D', Sep B w' (obFold p D' (N + 9) (cutR F rs) :: os)) ∧ Keep D w w' := by
  have hap := h.two (i := 0) (j := i + 1) (by omega) rfl (b := obRws v 37 vs rs) (by simpa using hr)
  have hi := h.get (i + 1) (o := obRws v 37 vs rs) (by simpa using hr)
  refine (FoldO.cut (h.get 0 rfl) (v := v) (rs := rs) (fun w' hk => ?_) hl hok hu hFl hN).mono ?_
  · have := (obRws_good v 37 vs rs).keep hi hk (fun k hd => hap k hd)
    exact RowsL.of_own this.1 this.2.1
  · rintro e w' ⟨rfl, D', hf, hm⟩
    exact ⟨rfl, ⟨D', h.head hm.keep (obFold_good ..) hf (fun k hk => hm.new k hk)⟩, hm.keep⟩
/-- The states ahead of the cuts. -/
def addsF : Nat → FS
  | 0 => emptyFS
  | k + 1 => addR (addsF k) (3 * (k : Int)) 4
theorem addsF_e : ∀ k : Nat, k < 2 → addE (addsF k) (3 * (k : Int)) = 0 := by
  intro k hk
  match k, hk with
  | 0, _ => rfl
  | 1, _ => rfl
theorem neqSp (s : Sp) (w : World) : (binOp .neq 60 (spV s) (spV s)).run Try.prog w = Result.ok (.bool false) w := by
  have u3 := Try.underlying3
  have u4 := Try.underlying39
  have hS : Try.prog.underlying 60 = some (.struct (Try.prog.fieldsOf 60)) := by kernel_rfl
  have hp : Try.prog.stoodInHeld 60 = false := by kernel_rfl
  rw [run_neq_struct, show (10000 : Nat) = 9999 + 1 from rfl, run_equalIn_agg w 9999 60 _ _ hS hp]
  simp only [Program.fieldsOf, Try.underlying60]
  go_simp

theorem Try.cutsRowInfo : (Try.prog.info? 37).map (fun i => (i.zero, i.size, i.bytes)) = some (some (.agg #[.int .i64 0, .slice none 0 0]), 2, 32) := by kernel_rfl
theorem want_next {a b : List Int} {k h g j : Nat} {n0 : Int} (hj : j = 4 * h + g) (hg : g < 4) (hn : 0 < nK a b k j) :
    spC (posSp n0 (wL a b k (j + 1))) = spC (posSp n0 (wL a b k j)) ++ [.int .u64 (n0 + sumI (manyOf (wL a b k j))), .int .i64 (3 * (h : Int)), .int .i64 (g : Int), .int .u64 (tK a b k j), .int .u64 (nK a b k j)] ∧ (wL a b k (j + 1)).length = (wL a b k j).length + 1 := by
  have e1 : j / 4 = h := by omega
  have e2 : j % 4 = g := by omega
  have hs : wS a b k j = [⟨0, 3 * (h : Int), (g : Int), tK a b k j, nK a b k j⟩] := by unfold wS; rw [if_pos hn, e1, e2]
  rw [wL_succ, hs, posSp_app, spC_app]
  exact ⟨rfl, by simp⟩
theorem want_same {a b : List Int} {k j : Nat} (hn : nK a b k j = 0) : wL a b k (j + 1) = wL a b k j := by
  rw [wL_succ]
  unfold wS
  rw [if_neg (by omega), List.append_nil]
theorem aL_zero (a b : List Int) : (u64s (aL a b 0 0)).toArray = madeCells #[.int .u64 0] 8 := by
  have h : aL a b 0 0 = List.replicate 8 0 := by simp [aL, tK, List.range_succ, List.replicate]
  rw [h]
  apply Array.ext
  · simp [madeCells]
  · intro i h1 h2
    rw [List.getElem_toArray, List.getElem_map, List.getElem_replicate]
    simp [madeCells, Nat.mod_one]
theorem and3 {z : Int} (h : 0 ≤ z ∧ z ≤ 255) : bits BinOp.and IntKind.u8 z 3 = z % 4 := bits_mask .u8 8 (by decide) wraps_u8 2 (by decide) z h.1 (by omega)
set_option maxHeartbeats 8000000 in
theorem foldCuts_walk {W : World} {va vb : Value} {xs ys : List Int} (h0 : SlR W va (u8s xs)) (w0 : ∀ x ∈ xs, (Lit.int .u8 x).wf = true) (h1 : SlR W vb (u8s ys)) (w1 : ∀ x ∈ ys, (Lit.int .u8 x).wf = true) :
    Calls Try.prog 8 #[va, vb] W fun e W' => e = .returned (.bool true) ∧ Below W.heap.size W W' := by
  have HUx := Lib.hid (u8_of_wf w0)
  have HUy := Lib.hid (u8_of_wf w1)
  have HX := Lib.hid h0
  have HY := Lib.hid h1
  obtain ⟨i0, hi, hz0, hz1, hz2⟩ := info_parts Try.spanInfo
  obtain ⟨j0, hj, hy0, hy1, hy2⟩ := info_parts Try.vecInfo
  obtain ⟨r0, hr, hr0, hr1, hr2⟩ := info_parts Try.cutsRowInfo
  obtain ⟨ao, ac, rfl, hac, ham⟩ := h0.form
  obtain ⟨bo, bc, rfl, hbc, hbm⟩ := h1.form
  simp only [List.length_map] at *
  clear h0 w0 h1 w1
  by_cases hlen : xs.length ≤ 8 ∧ ys.length ≤ 8
  rotate_left
  · by_cases hx : xs.length ≤ 8
    · have hxd : decide ((8 : Int) < (xs.length : Int)) = false := decide_eq_false (by omega)
      have hyd : (8 : Int) < (ys.length : Int) := by omega
      go_enter Try.func8, Try.ntmps8
      go_wp2_with fail
      refine (fawake_any W).mono ?_
      rintro e w1 ⟨rfl, hb1⟩
      have HB1 := Lib.hid hb1
      clear hb1
      go_wp2_with fail
      go_ret
      exact ⟨rfl, HB1.out⟩
    · have hxd : (8 : Int) < (xs.length : Int) := by omega
      go_enter Try.func8, Try.ntmps8
      go_wp2_with fail
      refine (fawake_any W).mono ?_
      rintro e w1 ⟨rfl, hb1⟩
      have HB1 := Lib.hid hb1
      clear hb1
      go_wp2_with fail
      go_ret
      exact ⟨rfl, HB1.out⟩
  · have hxd : decide ((8 : Int) < (xs.length : Int)) = false := decide_eq_false (by omega)
    have hyd : decide ((8 : Int) < (ys.length : Int)) = false := decide_eq_false (by omega)
    have hmk : ∀ w : World, (Instr.makeSlice 27 (.int .i64 8) (.int .i64 8)).run Try.prog w = Result.ok (.slice (some ⟨w.heap.size, 0, none⟩) 8 8) (w.alloc (.cells (madeCells #[.int .u64 0] 8) 39)) := fun w => run_make_row (P := Try.prog) 27 39 j0 (.int .u64 0) Try.underlying27 hj hy0 hy1 rfl .i64 .i64 8 (by rw [hy2]; decide) (by decide) w
    go_enter Try.func8, Try.ntmps8
    go_wp2_with fail
    refine (fawake_any W).mono ?_
    rintro e w1 ⟨rfl, hb1⟩
    have HB1 := Lib.hid hb1
    clear hb1
    go_wp2_with fail
    refine (fnew_w W w1 HB1.out).mono ?_
    rintro e w2 ⟨b0, rfl, hf2⟩
    have HF2 := Lib.hid hf2
    clear hf2
    go_wp2_with fail
    go_loopw [7] (fun i wr => ∃ k : Nat, k ≤ 2 ∧ i = .int .i64 k ∧ FoldW W (.pointer (some ⟨b0, 0, none⟩)) wr k (addsF k)) (fun i _ => 2 - (intOf i).toNat)
    case atStart => exact ⟨0, by omega, rfl, HF2.out⟩
    case round =>
      obtain ⟨k, hk, rfl, hfk⟩ := hrel
      have HFk := Lib.hid hfk
      clear hfk
      by_cases hlt : k < 2
      · have hki : (k : Int) < 2 := by omega
        go_wp2_with fail
        refine (HFk.out.added (shard := 3 * (k : Int)) (sg := 4) (by omega) (by decide) (by decide) (by omega)).mono ?_
        rintro e w3 ⟨rfl, hf3⟩
        rw [addsF_e k hlt]
        have HF3 := Lib.hid hf3
        clear hf3
        go_wp2_with fail
        go_roundw
        case rel => exact ⟨k + 1, by omega, by go_num, HF3.out⟩
        case measure => simp [intOf]; omega
      · have hk2 : k = 2 := by omega
        subst hk2
        clear HF2 hlt hk
        obtain ⟨D0, hs0⟩ := sep_start HFk.out
        have hA1 := (Below.refl wr.heap.size wr).alloc (Nat.le_refl _) (.cells (madeCells #[.int .u64 0] 8) 39)
        have hs1 := hs0.new hA1 (obBlk_good wr.heap.size (.cells (u64s (aL xs ys 0 0)).toArray 39)) (by show (wr.alloc (.cells (madeCells #[.int .u64 0] 8) 39)).heap[wr.heap.size]? = _; rw [aL_zero]; exact heap_alloc_new wr _) (fun k hk => by rw [show k = wr.heap.size from hk]; exact Nat.le_refl _)
        have hb1 := HFk.out.below.trans (hA1.mono HFk.out.below.size)
        have hA2 := (Below.refl (wr.alloc (.cells (madeCells #[.int .u64 0] 8) 39)).heap.size (wr.alloc (.cells (madeCells #[.int .u64 0] 8) 39))).alloc (Nat.le_refl _) (.cells #[.slice ao xs.length ac, .slice bo ys.length bc] 23)
        have hs2 := hs1.new hA2 (obBlk_good (wr.heap.size + 1) (.cells #[.slice ao xs.length ac, .slice bo ys.length bc] 23)) (by
          have := heap_alloc_new (wr.alloc (.cells (madeCells #[.int .u64 0] 8) 39)) (.cells #[.slice ao xs.length ac, .slice bo ys.length bc] 23)
          rwa [show (wr.alloc (.cells (madeCells #[.int .u64 0] 8) 39)).heap.size = wr.heap.size + 1 by simp] at this) (fun k hk => by rw [show k = wr.heap.size + 1 from hk]; simp)
        have hb2 := hb1.trans (hA2.mono hb1.size)
        have HS2 := Lib.hid ((hs2.front 1 rfl).front 2 rfl)
        have HB2 := Lib.hid hb2
        obtain ⟨LB, hLB⟩ : ∃ LB, LB = wr.heap.size := ⟨_, rfl⟩
        have hBB : wr.heap.size + 1 = LB + 1 := by omega
        obtain ⟨BB, hBB2⟩ : ∃ BB, BB = wr.heap.size + 1 := ⟨_, rfl⟩
        rw [← hBB2, ← hLB] at HS2
        clear hs0 hA1 hs1 hb1 hA2 hs2 hb2 hBB
        go_wp2_with fail
        rw [← hBB2, ← hLB]
        (try rw [show ((2 : Nat) : Int) = 2 from rfl])
        clear hLB hBB2 hmk HFk
        go_loopw [11, 10] (fun i q wr => ∃ (k N : Nat) (F : FS) (D : Nat → Prop), k ≤ 2 ∧ N ≤ 2 + 10 * k ∧ i = .int .i64 k ∧ q = .int .u64 F.n ∧ CutsF xs ys k F ∧ Sep W.heap.size wr [obFold (.pointer (some ⟨b0, 0, none⟩)) D N F, obBlk LB (.cells (u64s (aL xs ys k 0)).toArray 39), obBlk BB (.cells #[.slice ao xs.length ac, .slice bo ys.length bc] 23)] ∧ Below W.heap.size W wr) (fun i _ _ => 2 - (intOf i).toNat)
        case atStart => exact ⟨0, 2, _, D0, by omega, by omega, rfl, rfl, cuts_first xs ys, HS2.out, HB2.out⟩
        case round =>
          clear HS2 HB2
          obtain ⟨k, N, F, D, hk, hN, rfl, rfl, hcf, hsep, hbw⟩ := hrel
          have HCF := Lib.hid hcf
          have HSep := Lib.hid hsep
          have HBw := Lib.hid hbw
          clear hcf hsep hbw
          by_cases hlt : k < 2
          · have hki : (k : Int) < 2 := by omega
            obtain ⟨vo, zs, vc, hzl, hzu, hsl, hnk, hcellk⟩ : ∃ vo zs vc, zs.length ≤ 8 ∧ U8 zs ∧ SlR W (.slice vo zs.length vc) (u8s zs) ∧ (∀ i, nK xs ys k i = nB zs i) ∧ (#[.slice ao xs.length ac, .slice bo ys.length bc] : Array Value)[k]? = some (.slice vo zs.length vc) := by
              match k, hlt with
              | 0, _ => exact ⟨ao, xs, ac, hlen.1, HUx.out, HX.out, fun i => rfl, rfl⟩
              | 1, _ => exact ⟨bo, ys, bc, hlen.2, HUy.out, HY.out, fun i => rfl, rfl⟩
            have HZu := Lib.hid hzu
            have HZs := Lib.hid hsl
            have HNk := Lib.hid hnk
            have HCk := Lib.hid hcellk
            clear hzu hsl hnk hcellk
            go_wp2_with fail
            go_loopw [14, 10, 12, 13] (fun i q rv wv wr => ∃ (h : Nat) (vs : List Value), h ≤ 2 ∧ i = .int .i64 h ∧ q = .int .u64 (F.n + sumI (manyOf (wL xs ys k (4 * h)))) ∧ Sep W.heap.size wr [obFold (.pointer (some ⟨b0, 0, none⟩)) D N F, obBlk LB (.cells (u64s (aL xs ys k (4 * h))).toArray 39), obBlk BB (.cells #[.slice ao xs.length ac, .slice bo ys.length bc] 23), obRow wv 60 5 (wL xs ys k (4 * h)).length (spC (posSp F.n (wL xs ys k (4 * h)))), obRws rv 37 vs (rowsK xs ys k h)] ∧ Below W.heap.size W wr) (fun i _ _ _ _ => 2 - (intOf i).toNat)
            case atStart => exact ⟨0, [], by omega, rfl, by simp [wL, manyOf, sumI], (((HSep.out.new (Below.refl _ _) (obRws_good (.slice none 0 0) 37 [] []) ⟨World.ownsRow_nil _ _ _ _, RowsC.nil _, by intro u hu; cases hu⟩ (by rintro k (hk | ⟨u, hu, _⟩); cases hk; cases hu)).new (Below.refl _ _) (obRow_good (.slice none 0 0) 60 5 0 []) (World.ownsRow_nil _ _ _ _) (by intro k hk; cases hk)).perm (by
              refine List.Perm.trans ?_ (List.perm_append_comm (l₁ := [_, _]) (l₂ := [_, _, _]))
              exact List.Perm.refl _)), HBw.out⟩
            case round =>
              clear HSep HBw
              obtain ⟨h, vs, hh, rfl, rfl, hsep, hbw⟩ := hrel
              have HSep := Lib.hid hsep
              have HBw := Lib.hid hbw
              clear hsep hbw
              by_cases hlt2 : h < 2
              · have hhi : (h : Int) < 2 := by omega
                have hA := (Below.refl wr.heap.size wr).alloc (Nat.le_refl _) (.cells #[.int .i64 (3 * (h : Int)), .slice none 0 0] 37)
                have hs1 := (HSep.out.new hA (obBlk_good wr.heap.size (.cells #[.int .i64 (3 * (h : Int)), .slice none 0 0] 37)) (heap_alloc_new wr _) (fun k hk => by rw [show k = wr.heap.size from hk]; exact Nat.le_refl _)).new (Below.refl _ _) (obRow_good (.slice none 0 0) 39 1 0 []) (World.ownsRow_nil _ _ _ _) (by intro k hk; cases hk)
                have HS1 := Lib.hid hs1
                have HB1 := Lib.hid (HBw.out.trans (hA.mono HBw.out.size))
                obtain ⟨XB, hXB⟩ : ∃ XB, XB = wr.heap.size := ⟨_, rfl⟩
                obtain ⟨wx, hwx⟩ : ∃ wx, wx = wr.alloc (.cells #[.int .i64 (3 * (h : Int)), .slice none 0 0] 37) := ⟨_, rfl⟩
                rw [← hXB, ← hwx] at HS1
                rw [← hwx] at HB1
                clear hA hs1
                go_wp2_with fail
                rw [← hXB, ← hwx]
                clear hXB hwx HSep HBw
                go_loopw [16, 10, 13, 17] (fun i q wv _ wr => ∃ (g : Nat) (lv : Value), g ≤ 4 ∧ i = .int .i64 g ∧ q = .int .u64 (F.n + sumI (manyOf (wL xs ys k (4 * h + g)))) ∧ Sep W.heap.size wr [obRow lv 39 1 g (u64s (rK xs ys k h g)), obBlk XB (.cells #[.int .i64 (3 * (h : Int)), lv] 37), obFold (.pointer (some ⟨b0, 0, none⟩)) D N F, obBlk LB (.cells (u64s (aL xs ys k (4 * h + g))).toArray 39), obBlk BB (.cells #[.slice ao xs.length ac, .slice bo ys.length bc] 23), obRow wv 60 5 (wL xs ys k (4 * h + g)).length (spC (posSp F.n (wL xs ys k (4 * h + g)))), obRws u12 37 vs (rowsK xs ys k h)] ∧ Below W.heap.size W wr) (fun i _ _ _ _ => 4 - (intOf i).toNat)
                case atStart => exact ⟨0, .slice none 0 0, by omega, rfl, rfl, HS1.out, HB1.out⟩
                case round =>
                  clear HS1 HB1
                  obtain ⟨g, lv, hg, rfl, rfl, hsep, hbw⟩ := hrel
                  obtain ⟨j, hj'⟩ : ∃ j, j = 4 * h + g := ⟨_, rfl⟩
                  rw [← hj'] at hsep ⊢
                  have HSg := Lib.hid hsep
                  have HBg := Lib.hid hbw
                  have HJ := Lib.hid hj'
                  clear hsep hbw
                  by_cases hlt3 : g < 4
                  · have hj8 : j < 8 := by omega
                    have hgi : (g : Int) < 4 := by omega
                    have hji : 4 * (h : Int) + (g : Int) = (j : Int) := by omega
                    have hj8i : (j : Int) < 8 := by omega
                    have hj0i : (0 : Int) ≤ (j : Int) := by omega
                    clear hj'
                    have HJ1 : Hid (4 * h + (g + 1) = j + 1) := Lib.hid (by have := HJ.out; omega)
                    have e0 : wr.cell? ⟨BB, k, none⟩ = some (.slice vo zs.length vc) := by rw [cell_of_row wr BB k _ _ _ (HSg.out.get 4 rfl)]; exact HCk.out
                    have HAi : Hid ((u64s (aL xs ys k j)).toArray[j]? = some (.int .u64 (tK xs ys k j))) := Lib.hid (by rw [List.getElem?_toArray, List.getElem?_map, aL_at _ _ _ _ _ hj8, if_neg (by omega), Int.add_zero]; rfl)
                    have e1 : wr.cell? ⟨LB, j, none⟩ = some (.int .u64 (tK xs ys k j)) := by rw [cell_of_row wr LB j _ _ _ (HSg.out.get 3 rfl)]; exact HAi.out
                    obtain ⟨lo, lc, hlv, _, _⟩ := own_form (HSg.out.get 0 rfl)
                    subst hlv
                    have ht := tK_le xs ys k j
                    have hn3 := nK_le xs ys k j
                    have hw := wL_le xs ys k j
                    have hws := wL_sum xs ys k j
                    have HRk : Hid (rK xs ys k h (g + 1) = rK xs ys k h g ++ [tK xs ys k j + nK xs ys k j]) := Lib.hid (by rw [rK_succ, ← HJ.out, tK_succ xs ys hlt])
                    have hnz := HNk.out j
                    have HWn : Hid (0 < nK xs ys k j → spC (posSp F.n (wL xs ys k (j + 1))) = spC (posSp F.n (wL xs ys k j)) ++ [.int .u64 (F.n + sumI (manyOf (wL xs ys k j))), .int .i64 (3 * (h : Int)), .int .i64 (g : Int), .int .u64 (tK xs ys k j), .int .u64 (nK xs ys k j)] ∧ (wL xs ys k (j + 1)).length = (wL xs ys k j).length + 1) := Lib.hid (fun hp => want_next HJ.out hlt3 hp)
                    have HWs : Hid (nK xs ys k j = 0 → wL xs ys k (j + 1) = wL xs ys k j) := Lib.hid want_same
                    have hFn := HCF.out.n
                    obtain ⟨n, hn⟩ : ∃ n, n = nK xs ys k j := ⟨_, rfl⟩
                    obtain ⟨s, hs⟩ : ∃ s, s = sumI (manyOf (wL xs ys k j)) := ⟨_, rfl⟩
                    have HNn := Lib.hid hn
                    have HPos : Hid (F.n + sumI (manyOf (wL xs ys k (4 * h + (g + 1)))) = F.n + s + n) := Lib.hid (by rw [HJ1.out, hws, hn, hs]; omega)
                    rw [← hn] at hn3 hnz HWn HWs
                    rw [← hs] at hw HWn ⊢
                    clear hn hs hws
                    by_cases hjz : j < zs.length
                    · have HV : Hid ((tK xs ys k j + n) = tK xs ys k j + nK xs ys k j) := Lib.hid (by rw [HNn.out])
                      have hjzi : (j : Int) < (zs.length : Int) := by omega
                      have hzj : zs[j] % 4 = n := by
                        rw [hnz]; unfold nB; rw [List.getD_eq_getElem?_getD, List.getElem?_eq_getElem hjz]; rfl
                      have hzb := HZu.out zs[j] (List.getElem_mem hjz)
                      obtain ⟨zo, zc, hze, _, _, hzx⟩ := HZs.out.below HBg.out (Nat.le_refl _)
                      simp only [List.length_map] at hze
                      cases hze
                      obtain ⟨za, rfl, hzm⟩ := hzx j (.int .u8 zs[j]) (by simp [hjz])
                      clear hzx hnz
                      have hz3 := and3 hzb
                      rw [hzj] at hz3
                      have hwn : IntKind.u64.wrap n = n := IntWalk.u64_in _ (by omega)
                      generalize zs[j] = z at *
                      clear hzj
                      by_cases hn0 : 0 < n
                      · obtain ⟨wo, wc, hwv, _, _⟩ := own_form (HSg.out.get 5 rfl)
                        subst hwv
                        have HU5 : Hid (∀ u ∈ (#[.int .u64 (F.n + s), .int .i64 (3 * (h : Int)), .int .i64 (g : Int), .int .u64 (tK xs ys k j), .int .u64 n] : Array Value).toList, u.oneCell' = true) := Lib.hid (by intro u hu; simp at hu; rcases hu with rfl | rfl | rfl | rfl | rfl <;> rfl)
                        have hwl : (wL xs ys k j).length ≤ 1099511627776 := by omega
                        go_wp2_with (first
                          | (at_builtin; (refine wpList_appS rfl (.tmp 86) (.tmp 100) 58 rfl 0 60 i0 _ 5 40 Try.underlying58 hi hz0 hz1 hz2 rfl (by decide) (by decide) rfl rfl rfl rfl (HSg.out.get 5 rfl) HU5.out hwl (Nat.zero_le _) ?_)
                             intro g7 cap7 w7 hown7 hg7 hor7
                             (
                              have hk7 : Keep (obRow (.slice wo (wL xs ys k j).length wc) 60 5 (wL xs ys k j).length (spC (posSp F.n (wL xs ys k j)))).foot wr w7 := (Below.keep0 _ ((Below.refl _ _).alloc (Nat.le_refl _) _)).trans (Keep.grown hg7 (fun q hq => hq))
                              have hOK1 : True := trivial
                              have HS7 := Lib.hid (HSg.out.set 5 rfl hk7 (obRow_good (.slice (some ⟨g7, 0, none⟩) ((wL xs ys k j).length + 1) cap7) 60 5 (wL xs ys k (j + 1)).length (spC (posSp F.n (wL xs ys k (j + 1))))) (by show w7.ownsRow 0 60 5 _ _ _; rw [(HWn.out hn0).1, (HWn.out hn0).2]; exact hown7) (fun q hq => by cases hq; rcases hor7 with e | e; exact Or.inl e; exact Or.inr (by show wr.heap.size ≤ g7; omega)))
                              have HB7 := Lib.hid (HSg.out.belowAt HBg.out 5 rfl hk7)
                              clear hown7 hg7 hor7 hk7
                              have f1 : w7.cell? ⟨LB, j, none⟩ = some (.int .u64 (tK xs ys k j)) := by rw [cell_of_row w7 LB j _ _ _ (HS7.out.get 3 rfl)]; exact HAi.out
                              have f2 : w7.frozen? ⟨LB, j, none⟩ = false := by have hh : w7.heap[LB]? = _ := HS7.out.get 3 rfl; simp [World.frozen?, hh]
                              have hk8 := (Keep.refl (fun q => q = LB) w7).setCell (p := ⟨LB, j, none⟩) (Or.inl rfl) (.int .u64 (tK xs ys k j + n))
                              have hs8 := HS7.out.set 3 rfl hk8 (obBlk_good LB (.cells (u64s (aL xs ys k (j + 1))).toArray 39)) (by
                                have hh := heap_setCell_same w7 LB j _ _ (.int .u64 (tK xs ys k j + n)) (HS7.out.get 3 rfl)
                                have ha := aL_set xs ys k j hj8
                                rw [← HV.out] at ha
                                rw [ha] at hh
                                exact hh) (fun q hq => Or.inl hq)
                              have HB8 := Lib.hid (HS7.out.belowAt HB7.out 3 rfl hk8)
                              have HS8 := Lib.hid hs8
                              clear hk8 hs8))
                          | fail)
                        obtain ⟨w8, hw8⟩ : ∃ w8, w8 = w7.setCell ⟨LB, j, none⟩ (.int .u64 (tK xs ys k j + n)) := ⟨_, rfl⟩
                        rw [← hw8] at HS8 HB8 ⊢
                        clear hw8 f1 f2
                        have HAj : Hid ((u64s (aL xs ys k (j + 1))).toArray[j]? = some (.int .u64 (tK xs ys k j + n))) := Lib.hid (by rw [List.getElem?_toArray, List.getElem?_map, aL_at _ _ _ _ _ hj8, if_pos (by omega)]; exact congrArg (fun x => some (Value.int IntKind.u64 x)) HV.out.symm)
                        have HAll : Hid (∀ W', Below w8.heap.size w8 W' → (W'.cell? ⟨LB, j, none⟩ = some (.int .u64 (tK xs ys k j + n))) ∧ (W'.cell? ⟨XB, 1, none⟩ = some (.slice lo g lc))) := Lib.hid (fun W' hW' => by
                          have hs := HS8.out.step hW'
                          exact ⟨by rw [cell_of_row W' LB j _ _ _ (hs.get 3 rfl)]; exact HAj.out, World.news_of_block (hs.get 1 rfl) 1 _ rfl⟩)
                        have hw4 : IntKind.i64.wrap (4 * (h : Int)) = 4 * (h : Int) := IntWalk.i64_in _ (by omega)
                        have hwj : IntKind.i64.wrap (j : Int) = (j : Int) := IntWalk.i64_in _ (by omega)
                        have hbb : Below w8.heap.size w8 (w8.drew.alloc (.cells #[.int .u64 (tK xs ys k j + n)] 39)) := ((Below.refl _ w8).drew).alloc (by simp) _
                        have HSb := Lib.hid (HS8.out.step hbb)
                        have HBb := Lib.hid (HB8.out.trans (hbb.mono HB8.out.size))
                        clear hbb
                        refine wp_region_noPanic ?_
                        refine wp_region_U (fun w' => w'.cell? ⟨LB, j, none⟩ = some (.int .u64 (tK xs ys k j + n))) (fun w' => w'.cell? ⟨XB, 1, none⟩ = some (.slice lo g lc)) 12 (by kernel_rfl) ?_
                        have hS0 := (HAll.out _ ((Below.refl _ w8).drew)).1
                        have hS1 := (HAll.out _ ((Below.refl _ w8).drew)).2
                        refine wpAnyU_take (i := 0) (v := ?_) false (by simp only [List.getElem?_toArray, List.getElem?_cons_zero]; rfl) (by kernel_rfl) (by kernel_rfl) (by kernel_rfl) (fun _ _ _ h => h) (by kernel_rfl) (by decide) (Or.inl ⟨by rfl, ?_⟩) ⟨hS0, (fun _ => hS1)⟩ ?_
                        rotate_left
                        · rintro w ⟨hSw, hSx⟩
                          (try dsimp only at hSw)
                          clear hSx
                          go_simp
                          first | done | with_reducible rfl
                        (try simp only [Act.put, List.setIfInBounds_toArray, List.set_cons_zero, List.set_cons_succ])
                        refine wpAnyU_take (i := 1) (v := ?_) true (by simp only [List.getElem?_toArray, List.getElem?_cons_succ, List.getElem?_cons_zero]; rfl) (by kernel_rfl) (by kernel_rfl) (by kernel_rfl) (fun _ _ _ h => h) (by kernel_rfl) (by decide) (Or.inl ⟨by rfl, ?_⟩) ⟨hS0, (fun _ => hS1)⟩ ?_
                        rotate_left
                        · rintro w ⟨hSw, hSx⟩
                          (try dsimp only at hSw)
                          have hSx := hSx rfl
                          (try dsimp only at hSx)
                          go_simp
                          first | done | with_reducible rfl
                        (try simp only [Act.put, List.setIfInBounds_toArray, List.set_cons_zero, List.set_cons_succ])
                        refine wpAnyU_take (i := 2) (v := ?_) false (by simp only [List.getElem?_toArray, List.getElem?_cons_succ, List.getElem?_cons_zero]; rfl) (by kernel_rfl) (by kernel_rfl) (by kernel_rfl) (fun _ _ _ h => h) (by kernel_rfl) (by decide) (Or.inl ⟨by rfl, ?_⟩) ⟨hS0, (fun _ => hS1)⟩ ?_
                        rotate_left
                        · rintro w ⟨hSw, hSx⟩
                          (try dsimp only at hSw)
                          clear hSx
                          go_simp
                          first | done | with_reducible rfl
                        (try simp only [Act.put, List.setIfInBounds_toArray, List.set_cons_zero, List.set_cons_succ])
                        refine wpAnyU_take (i := 3) (v := ?_) false (by simp only [List.getElem?_toArray, List.getElem?_cons_succ, List.getElem?_cons_zero]; rfl) (by kernel_rfl) (by kernel_rfl) (by kernel_rfl) (fun _ _ _ h => h) (by kernel_rfl) (by decide) (Or.inl ⟨by rfl, ?_⟩) ⟨hS0, (fun _ => hS1)⟩ ?_
                        rotate_left
                        · rintro w ⟨hSw, hSx⟩
                          (try dsimp only at hSw)
                          clear hSx
                          go_simp
                          first | done | with_reducible rfl
                        (try simp only [Act.put, List.setIfInBounds_toArray, List.set_cons_zero, List.set_cons_succ])
                        refine wpAnyU_take (i := 4) (v := ?_) false (by simp only [List.getElem?_toArray, List.getElem?_cons_succ, List.getElem?_cons_zero]; rfl) (by kernel_rfl) (by kernel_rfl) (by kernel_rfl) (fun _ _ _ h => h) (by kernel_rfl) (by decide) (Or.inl ⟨by rfl, ?_⟩) ⟨hS0, (fun _ => hS1)⟩ ?_
                        rotate_left
                        · rintro w ⟨hSw, hSx⟩
                          (try dsimp only at hSw)
                          clear hSx
                          go_simp
                          first | done | with_reducible rfl
                        (try simp only [Act.put, List.setIfInBounds_toArray, List.set_cons_zero, List.set_cons_succ])
                        refine wpAnyU_take (i := 5) (v := ?_) false (by simp only [List.getElem?_toArray, List.getElem?_cons_succ, List.getElem?_cons_zero]; rfl) (by kernel_rfl) (by kernel_rfl) (by kernel_rfl) (fun _ _ _ h => h) (by kernel_rfl) (by decide) (Or.inl ⟨by rfl, ?_⟩) ⟨hS0, (fun _ => hS1)⟩ ?_
                        rotate_left
                        · rintro w ⟨hSw, hSx⟩
                          (try dsimp only at hSw)
                          clear hSx
                          go_simp
                          first | done | with_reducible rfl
                        (try simp only [Act.put, List.setIfInBounds_toArray, List.set_cons_zero, List.set_cons_succ])
                        refine wpAnyU_take (i := 6) (v := ?_) false (by simp only [List.getElem?_toArray, List.getElem?_cons_succ, List.getElem?_cons_zero]; rfl) (by kernel_rfl) (by kernel_rfl) (by kernel_rfl) (fun _ _ _ h => h) (by kernel_rfl) (by decide) (Or.inl ⟨by rfl, ?_⟩) ⟨hS0, (fun _ => hS1)⟩ ?_
                        rotate_left
                        · rintro w ⟨hSw, hSx⟩
                          (try dsimp only at hSw)
                          clear hSx
                          go_simp
                          first | done | with_reducible rfl
                        (try simp only [Act.put, List.setIfInBounds_toArray, List.set_cons_zero, List.set_cons_succ])
                        refine wpAnyU_take (i := 7) (v := ?_) false (by simp only [List.getElem?_toArray, List.getElem?_cons_succ, List.getElem?_cons_zero]; rfl) (by kernel_rfl) (by kernel_rfl) (by kernel_rfl) (fun _ _ _ h => h) (by kernel_rfl) (by decide) (Or.inl ⟨by rfl, ?_⟩) ⟨hS0, (fun _ => hS1)⟩ ?_
                        rotate_left
                        · rintro w ⟨hSw, hSx⟩
                          (try dsimp only at hSw)
                          clear hSx
                          go_simp
                          first | done | with_reducible rfl
                        (try simp only [Act.put, List.setIfInBounds_toArray, List.set_cons_zero, List.set_cons_succ])
                        refine wpAnyU_take (i := 8) (v := ?_) false (by simp only [List.getElem?_toArray, List.getElem?_cons_succ, List.getElem?_cons_zero]; rfl) (by kernel_rfl) (by kernel_rfl) (by kernel_rfl) (fun _ _ _ h => h) (by kernel_rfl) (by decide) (Or.inl ⟨by rfl, ?_⟩) ⟨hS0, (fun _ => hS1)⟩ ?_
                        rotate_left
                        · rintro w ⟨hSw, hSx⟩
                          (try dsimp only at hSw)
                          clear hSx
                          go_simp
                          first | done | with_reducible rfl
                        (try simp only [Act.put, List.setIfInBounds_toArray, List.set_cons_zero, List.set_cons_succ])
                        refine wpAnyU_one (i := 9) (by kernel_rfl) (by simp only [List.getElem?_toArray, List.getElem?_cons_succ, List.getElem?_cons_zero]; rfl) ?_
                        intro K hK
                        go_simp
                        clear hS0 hS1
                        have hS0 := (HAll.out _ (((Below.refl _ w8).drew).alloc (by simp) (.cells #[.int .u64 (tK xs ys k j + n)] 39))).1
                        have hS1 := (HAll.out _ (((Below.refl _ w8).drew).alloc (by simp) (.cells #[.int .u64 (tK xs ys k j + n)] 39))).2
                        refine hK.out _ _ ⟨hS0, (fun _ => hS1)⟩ ?_
                        clear hK
                        (try simp only [Act.put, List.setIfInBounds_toArray, List.set_cons_zero, List.set_cons_succ])
                        refine wpAnyU_one (i := 10) (by kernel_rfl) (by simp only [List.getElem?_toArray, List.getElem?_cons_succ, List.getElem?_cons_zero]; rfl) ?_
                        intro K hK
                        refine step_append_lies _ (by rfl) (.tmp 116) (.tmp 124) 27 (by rfl) 0 39 j0 _ 1 8 Try.underlying27 hj hy0 hy1 hy2 rfl (by omega) (.slice lo g lc) g (u64s (rK xs ys k h g)) (by rfl) (HSb.out.get 0 rfl) ⟨w8.heap.size, 0, none⟩ 1 1 [.int .u64 (tK xs ys k j + n)] (by rfl) (by rfl) (World.news_of_block (cs := #[.int .u64 (tK xs ys k j + n)]) (t := 39) (fr := (0, 0)) (heap_alloc_new _ _)) (by simp [Value.oneCell']) (by omega) (by unfold maxLen; omega) (by omega) (Nat.zero_le _) (w8.heap.size + 1) (by simp) ?_
                        intro g9 cap9 w9 hown9 hg9 hor9 hlt9
                        clear hS0 hS1
                        have hk9 : Keep (obRow (.slice lo g lc) 39 1 g (u64s (rK xs ys k h g))).foot (w8.drew.alloc (.cells #[.int .u64 (tK xs ys k j + n)] 39)) w9 := Keep.grown hg9 (fun q hq => hq)
                        have hs9 := HSb.out.set 0 rfl hk9 (obRow_good (.slice (some ⟨g9, 0, none⟩) (g + 1) cap9) 39 1 (g + 1) (u64s (rK xs ys k h (g + 1)))) (by show w9.ownsRow 0 39 1 _ (g + 1) _; rw [HRk.out, ← HV.out, u64s_app]; exact hown9) (fun q hq => by cases hq; rcases hor9 with e | e; exact Or.inl e; exact Or.inr (by simp; omega))
                        have hb9 := HSb.out.belowAt HBb.out 0 rfl hk9
                        have hx9 : w9.heap[XB]? = some (.cells #[.int .i64 (3 * (h : Int)), .slice lo g lc] 37) := hs9.get 1 rfl
                        have hS0 : w9.cell? ⟨LB, j, none⟩ = some (.int .u64 (tK xs ys k j + n)) := by rw [cell_of_row w9 LB j _ _ _ (hs9.get 3 rfl)]; exact HAj.out
                        have hS1 : w9.cell? ⟨XB, 1, none⟩ = some (.slice lo g lc) := World.news_of_block hx9 1 _ rfl
                        have z91 : w9.frozen? ⟨XB, 1, none⟩ = false := by simp [World.frozen?, hx9]
                        have hx10 := heap_setCell_same w9 XB 1 _ _ (.slice (some ⟨g9, 0, none⟩) (g + 1) cap9) hx9
                        have hk10 := (Keep.refl (fun q => q = XB) w9).setCell (p := ⟨XB, 1, none⟩) (Or.inl rfl) (.slice (some ⟨g9, 0, none⟩) (g + 1) cap9)
                        have HS10 := Lib.hid (hs9.set 1 rfl hk10 (obBlk_good XB (.cells #[.int .i64 (3 * (h : Int)), .slice (some ⟨g9, 0, none⟩) (g + 1) cap9] 37)) (by show (w9.setCell ⟨XB, 1, none⟩ (.slice (some ⟨g9, 0, none⟩) (g + 1) cap9)).heap[XB]? = _; simpa using hx10) (fun q hq => Or.inl hq))
                        have HB10 := Lib.hid (hs9.belowAt hb9 1 rfl hk10)
                        have hLX : LB ≠ XB := fun e => hs9.two (i := 1) (j := 3) (by omega) rfl rfl XB rfl e.symm
                        have hS0b := hk10.cell hS0 hLX
                        clear hown9 hg9 hor9 hlt9 hk9 hs9 hb9 hx9 hx10 hk10 hLX
                        refine hK.out _ _ ⟨hS0, (fun _ => hS1)⟩ ?_
                        clear hK
                        (try simp only [Act.put, List.setIfInBounds_toArray, List.set_cons_zero, List.set_cons_succ])
                        refine wpAnyU_take (i := 11) (v := ?_) false (by simp only [List.getElem?_toArray, List.getElem?_cons_succ, List.getElem?_cons_zero]; rfl) (by kernel_rfl) (by kernel_rfl) (by kernel_rfl) (fun _ _ _ h => h) (by kernel_rfl) (by decide) (Or.inl ⟨by rfl, ?_⟩) ⟨hS0, (fun _ => hS1)⟩ ?_
                        rotate_left
                        · rintro w ⟨hSw, hSx⟩
                          (try dsimp only at hSw)
                          clear hSx
                          go_simp
                          first | done | with_reducible rfl
                        (try simp only [Act.put, List.setIfInBounds_toArray, List.set_cons_zero, List.set_cons_succ])
                        refine wpAnyU_one (i := 12) (by kernel_rfl) (by simp only [List.getElem?_toArray, List.getElem?_cons_succ, List.getElem?_cons_zero]; rfl) ?_
                        intro K hK
                        go_simp
                        clear hS0
                        have hS0 := hS0b
                        refine hK.out _ _ ⟨hS0, (fun h => absurd h (by decide))⟩ ?_
                        clear hK
                        (try simp only [Act.put, List.setIfInBounds_toArray, List.set_cons_zero, List.set_cons_succ])
                        refine wpAnyU_done (by kernel_rfl) ?_ _
                        refine NoPanic.normal ?_
                        clear hS0 hS1
                        go_wp2_with fail
                        go_roundw
                        case rel => exact ⟨g + 1, _, by omega, by go_num, by rw [HPos.out], by rw [HJ1.out]; exact HS10.out, HB10.out⟩
                        case measure => simp [intOf]; omega
                      · have hnd : decide (0 < n) = false := decide_eq_false hn0
                        have HS7 : Hid (Sep W.heap.size wr [obRow (.slice lo g lc) 39 1 g (u64s (rK xs ys k h g)), obBlk XB (.cells #[.int .i64 (3 * (h : Int)), .slice lo g lc] 37), obFold (.pointer (some ⟨b0, 0, none⟩)) D N F, obBlk LB (.cells (u64s (aL xs ys k (j))).toArray 39), obBlk BB (.cells #[.slice ao xs.length ac, .slice bo ys.length bc] 23), obRow u13 60 5 (wL xs ys k (j + 1)).length (spC (posSp F.n (wL xs ys k (j + 1)))), obRws u12 37 vs (rowsK xs ys k h)]) := Lib.hid (by rw [HWs.out (by omega)]; exact HSg.out)
                        have HB7 := HBg
                        obtain ⟨w7, rfl⟩ : ∃ w7, w7 = wr := ⟨_, rfl⟩
                        have f1 : w7.cell? ⟨LB, j, none⟩ = some (.int .u64 (tK xs ys k j)) := by rw [cell_of_row w7 LB j _ _ _ (HS7.out.get 3 rfl)]; exact HAi.out
                        have f2 : w7.frozen? ⟨LB, j, none⟩ = false := by have hh : w7.heap[LB]? = _ := HS7.out.get 3 rfl; simp [World.frozen?, hh]
                        have hk8 := (Keep.refl (fun q => q = LB) w7).setCell (p := ⟨LB, j, none⟩) (Or.inl rfl) (.int .u64 (tK xs ys k j + n))
                        have hs8 := HS7.out.set 3 rfl hk8 (obBlk_good LB (.cells (u64s (aL xs ys k (j + 1))).toArray 39)) (by
                          have hh := heap_setCell_same w7 LB j _ _ (.int .u64 (tK xs ys k j + n)) (HS7.out.get 3 rfl)
                          have ha := aL_set xs ys k j hj8
                          rw [← HV.out] at ha
                          rw [ha] at hh
                          exact hh) (fun q hq => Or.inl hq)
                        have HB8 := Lib.hid (HS7.out.belowAt HB7.out 3 rfl hk8)
                        have HS8 := Lib.hid hs8
                        clear hk8 hs8
                        go_wp2_with fail
                        obtain ⟨w8, hw8⟩ : ∃ w8, w8 = w7.setCell ⟨LB, j, none⟩ (.int .u64 (tK xs ys k j + n)) := ⟨_, rfl⟩
                        rw [← hw8] at HS8 HB8 ⊢
                        clear hw8 f1 f2
                        have HAj : Hid ((u64s (aL xs ys k (j + 1))).toArray[j]? = some (.int .u64 (tK xs ys k j + n))) := Lib.hid (by rw [List.getElem?_toArray, List.getElem?_map, aL_at _ _ _ _ _ hj8, if_pos (by omega)]; exact congrArg (fun x => some (Value.int IntKind.u64 x)) HV.out.symm)
                        have HAll : Hid (∀ W', Below w8.heap.size w8 W' → (W'.cell? ⟨LB, j, none⟩ = some (.int .u64 (tK xs ys k j + n))) ∧ (W'.cell? ⟨XB, 1, none⟩ = some (.slice lo g lc))) := Lib.hid (fun W' hW' => by
                          have hs := HS8.out.step hW'
                          exact ⟨by rw [cell_of_row W' LB j _ _ _ (hs.get 3 rfl)]; exact HAj.out, World.news_of_block (hs.get 1 rfl) 1 _ rfl⟩)
                        have hw4 : IntKind.i64.wrap (4 * (h : Int)) = 4 * (h : Int) := IntWalk.i64_in _ (by omega)
                        have hwj : IntKind.i64.wrap (j : Int) = (j : Int) := IntWalk.i64_in _ (by omega)
                        have hbb : Below w8.heap.size w8 (w8.drew.alloc (.cells #[.int .u64 (tK xs ys k j + n)] 39)) := ((Below.refl _ w8).drew).alloc (by simp) _
                        have HSb := Lib.hid (HS8.out.step hbb)
                        have HBb := Lib.hid (HB8.out.trans (hbb.mono HB8.out.size))
                        clear hbb
                        refine wp_region_noPanic ?_
                        refine wp_region_U (fun w' => w'.cell? ⟨LB, j, none⟩ = some (.int .u64 (tK xs ys k j + n))) (fun w' => w'.cell? ⟨XB, 1, none⟩ = some (.slice lo g lc)) 12 (by kernel_rfl) ?_
                        have hS0 := (HAll.out _ ((Below.refl _ w8).drew)).1
                        have hS1 := (HAll.out _ ((Below.refl _ w8).drew)).2
                        refine wpAnyU_take (i := 0) (v := ?_) false (by simp only [List.getElem?_toArray, List.getElem?_cons_zero]; rfl) (by kernel_rfl) (by kernel_rfl) (by kernel_rfl) (fun _ _ _ h => h) (by kernel_rfl) (by decide) (Or.inl ⟨by rfl, ?_⟩) ⟨hS0, (fun _ => hS1)⟩ ?_
                        rotate_left
                        · rintro w ⟨hSw, hSx⟩
                          (try dsimp only at hSw)
                          clear hSx
                          go_simp
                          first | done | with_reducible rfl
                        (try simp only [Act.put, List.setIfInBounds_toArray, List.set_cons_zero, List.set_cons_succ])
                        refine wpAnyU_take (i := 1) (v := ?_) true (by simp only [List.getElem?_toArray, List.getElem?_cons_succ, List.getElem?_cons_zero]; rfl) (by kernel_rfl) (by kernel_rfl) (by kernel_rfl) (fun _ _ _ h => h) (by kernel_rfl) (by decide) (Or.inl ⟨by rfl, ?_⟩) ⟨hS0, (fun _ => hS1)⟩ ?_
                        rotate_left
                        · rintro w ⟨hSw, hSx⟩
                          (try dsimp only at hSw)
                          have hSx := hSx rfl
                          (try dsimp only at hSx)
                          go_simp
                          first | done | with_reducible rfl
                        (try simp only [Act.put, List.setIfInBounds_toArray, List.set_cons_zero, List.set_cons_succ])
                        refine wpAnyU_take (i := 2) (v := ?_) false (by simp only [List.getElem?_toArray, List.getElem?_cons_succ, List.getElem?_cons_zero]; rfl) (by kernel_rfl) (by kernel_rfl) (by kernel_rfl) (fun _ _ _ h => h) (by kernel_rfl) (by decide) (Or.inl ⟨by rfl, ?_⟩) ⟨hS0, (fun _ => hS1)⟩ ?_
                        rotate_left
                        · rintro w ⟨hSw, hSx⟩
                          (try dsimp only at hSw)
                          clear hSx
                          go_simp
                          first | done | with_reducible rfl
                        (try simp only [Act.put, List.setIfInBounds_toArray, List.set_cons_zero, List.set_cons_succ])
                        refine wpAnyU_take (i := 3) (v := ?_) false (by simp only [List.getElem?_toArray, List.getElem?_cons_succ, List.getElem?_cons_zero]; rfl) (by kernel_rfl) (by kernel_rfl) (by kernel_rfl) (fun _ _ _ h => h) (by kernel_rfl) (by decide) (Or.inl ⟨by rfl, ?_⟩) ⟨hS0, (fun _ => hS1)⟩ ?_
                        rotate_left
                        · rintro w ⟨hSw, hSx⟩
                          (try dsimp only at hSw)
                          clear hSx
                          go_simp
                          first | done | with_reducible rfl
                        (try simp only [Act.put, List.setIfInBounds_toArray, List.set_cons_zero, List.set_cons_succ])
                        refine wpAnyU_take (i := 4) (v := ?_) false (by simp only [List.getElem?_toArray, List.getElem?_cons_succ, List.getElem?_cons_zero]; rfl) (by kernel_rfl) (by kernel_rfl) (by kernel_rfl) (fun _ _ _ h => h) (by kernel_rfl) (by decide) (Or.inl ⟨by rfl, ?_⟩) ⟨hS0, (fun _ => hS1)⟩ ?_
                        rotate_left
                        · rintro w ⟨hSw, hSx⟩
                          (try dsimp only at hSw)
                          clear hSx
                          go_simp
                          first | done | with_reducible rfl
                        (try simp only [Act.put, List.setIfInBounds_toArray, List.set_cons_zero, List.set_cons_succ])
                        refine wpAnyU_take (i := 5) (v := ?_) false (by simp only [List.getElem?_toArray, List.getElem?_cons_succ, List.getElem?_cons_zero]; rfl) (by kernel_rfl) (by kernel_rfl) (by kernel_rfl) (fun _ _ _ h => h) (by kernel_rfl) (by decide) (Or.inl ⟨by rfl, ?_⟩) ⟨hS0, (fun _ => hS1)⟩ ?_
                        rotate_left
                        · rintro w ⟨hSw, hSx⟩
                          (try dsimp only at hSw)
                          clear hSx
                          go_simp
                          first | done | with_reducible rfl
                        (try simp only [Act.put, List.setIfInBounds_toArray, List.set_cons_zero, List.set_cons_succ])
                        refine wpAnyU_take (i := 6) (v := ?_) false (by simp only [List.getElem?_toArray, List.getElem?_cons_succ, List.getElem?_cons_zero]; rfl) (by kernel_rfl) (by kernel_rfl) (by kernel_rfl) (fun _ _ _ h => h) (by kernel_rfl) (by decide) (Or.inl ⟨by rfl, ?_⟩) ⟨hS0, (fun _ => hS1)⟩ ?_
                        rotate_left
                        · rintro w ⟨hSw, hSx⟩
                          (try dsimp only at hSw)
                          clear hSx
                          go_simp
                          first | done | with_reducible rfl
                        (try simp only [Act.put, List.setIfInBounds_toArray, List.set_cons_zero, List.set_cons_succ])
                        refine wpAnyU_take (i := 7) (v := ?_) false (by simp only [List.getElem?_toArray, List.getElem?_cons_succ, List.getElem?_cons_zero]; rfl) (by kernel_rfl) (by kernel_rfl) (by kernel_rfl) (fun _ _ _ h => h) (by kernel_rfl) (by decide) (Or.inl ⟨by rfl, ?_⟩) ⟨hS0, (fun _ => hS1)⟩ ?_
                        rotate_left
                        · rintro w ⟨hSw, hSx⟩
                          (try dsimp only at hSw)
                          clear hSx
                          go_simp
                          first | done | with_reducible rfl
                        (try simp only [Act.put, List.setIfInBounds_toArray, List.set_cons_zero, List.set_cons_succ])
                        refine wpAnyU_take (i := 8) (v := ?_) false (by simp only [List.getElem?_toArray, List.getElem?_cons_succ, List.getElem?_cons_zero]; rfl) (by kernel_rfl) (by kernel_rfl) (by kernel_rfl) (fun _ _ _ h => h) (by kernel_rfl) (by decide) (Or.inl ⟨by rfl, ?_⟩) ⟨hS0, (fun _ => hS1)⟩ ?_
                        rotate_left
                        · rintro w ⟨hSw, hSx⟩
                          (try dsimp only at hSw)
                          clear hSx
                          go_simp
                          first | done | with_reducible rfl
                        (try simp only [Act.put, List.setIfInBounds_toArray, List.set_cons_zero, List.set_cons_succ])
                        refine wpAnyU_one (i := 9) (by kernel_rfl) (by simp only [List.getElem?_toArray, List.getElem?_cons_succ, List.getElem?_cons_zero]; rfl) ?_
                        intro K hK
                        go_simp
                        clear hS0 hS1
                        have hS0 := (HAll.out _ (((Below.refl _ w8).drew).alloc (by simp) (.cells #[.int .u64 (tK xs ys k j + n)] 39))).1
                        have hS1 := (HAll.out _ (((Below.refl _ w8).drew).alloc (by simp) (.cells #[.int .u64 (tK xs ys k j + n)] 39))).2
                        refine hK.out _ _ ⟨hS0, (fun _ => hS1)⟩ ?_
                        clear hK
                        (try simp only [Act.put, List.setIfInBounds_toArray, List.set_cons_zero, List.set_cons_succ])
                        refine wpAnyU_one (i := 10) (by kernel_rfl) (by simp only [List.getElem?_toArray, List.getElem?_cons_succ, List.getElem?_cons_zero]; rfl) ?_
                        intro K hK
                        refine step_append_lies _ (by rfl) (.tmp 116) (.tmp 124) 27 (by rfl) 0 39 j0 _ 1 8 Try.underlying27 hj hy0 hy1 hy2 rfl (by omega) (.slice lo g lc) g (u64s (rK xs ys k h g)) (by rfl) (HSb.out.get 0 rfl) ⟨w8.heap.size, 0, none⟩ 1 1 [.int .u64 (tK xs ys k j + n)] (by rfl) (by rfl) (World.news_of_block (cs := #[.int .u64 (tK xs ys k j + n)]) (t := 39) (fr := (0, 0)) (heap_alloc_new _ _)) (by simp [Value.oneCell']) (by omega) (by unfold maxLen; omega) (by omega) (Nat.zero_le _) (w8.heap.size + 1) (by simp) ?_
                        intro g9 cap9 w9 hown9 hg9 hor9 hlt9
                        clear hS0 hS1
                        have hk9 : Keep (obRow (.slice lo g lc) 39 1 g (u64s (rK xs ys k h g))).foot (w8.drew.alloc (.cells #[.int .u64 (tK xs ys k j + n)] 39)) w9 := Keep.grown hg9 (fun q hq => hq)
                        have hs9 := HSb.out.set 0 rfl hk9 (obRow_good (.slice (some ⟨g9, 0, none⟩) (g + 1) cap9) 39 1 (g + 1) (u64s (rK xs ys k h (g + 1)))) (by show w9.ownsRow 0 39 1 _ (g + 1) _; rw [HRk.out, ← HV.out, u64s_app]; exact hown9) (fun q hq => by cases hq; rcases hor9 with e | e; exact Or.inl e; exact Or.inr (by simp; omega))
                        have hb9 := HSb.out.belowAt HBb.out 0 rfl hk9
                        have hx9 : w9.heap[XB]? = some (.cells #[.int .i64 (3 * (h : Int)), .slice lo g lc] 37) := hs9.get 1 rfl
                        have hS0 : w9.cell? ⟨LB, j, none⟩ = some (.int .u64 (tK xs ys k j + n)) := by rw [cell_of_row w9 LB j _ _ _ (hs9.get 3 rfl)]; exact HAj.out
                        have hS1 : w9.cell? ⟨XB, 1, none⟩ = some (.slice lo g lc) := World.news_of_block hx9 1 _ rfl
                        have z91 : w9.frozen? ⟨XB, 1, none⟩ = false := by simp [World.frozen?, hx9]
                        have hx10 := heap_setCell_same w9 XB 1 _ _ (.slice (some ⟨g9, 0, none⟩) (g + 1) cap9) hx9
                        have hk10 := (Keep.refl (fun q => q = XB) w9).setCell (p := ⟨XB, 1, none⟩) (Or.inl rfl) (.slice (some ⟨g9, 0, none⟩) (g + 1) cap9)
                        have HS10 := Lib.hid (hs9.set 1 rfl hk10 (obBlk_good XB (.cells #[.int .i64 (3 * (h : Int)), .slice (some ⟨g9, 0, none⟩) (g + 1) cap9] 37)) (by show (w9.setCell ⟨XB, 1, none⟩ (.slice (some ⟨g9, 0, none⟩) (g + 1) cap9)).heap[XB]? = _; simpa using hx10) (fun q hq => Or.inl hq))
                        have HB10 := Lib.hid (hs9.belowAt hb9 1 rfl hk10)
                        have hLX : LB ≠ XB := fun e => hs9.two (i := 1) (j := 3) (by omega) rfl rfl XB rfl e.symm
                        have hS0b := hk10.cell hS0 hLX
                        clear hown9 hg9 hor9 hlt9 hk9 hs9 hb9 hx9 hx10 hk10 hLX
                        refine hK.out _ _ ⟨hS0, (fun _ => hS1)⟩ ?_
                        clear hK
                        (try simp only [Act.put, List.setIfInBounds_toArray, List.set_cons_zero, List.set_cons_succ])
                        refine wpAnyU_take (i := 11) (v := ?_) false (by simp only [List.getElem?_toArray, List.getElem?_cons_succ, List.getElem?_cons_zero]; rfl) (by kernel_rfl) (by kernel_rfl) (by kernel_rfl) (fun _ _ _ h => h) (by kernel_rfl) (by decide) (Or.inl ⟨by rfl, ?_⟩) ⟨hS0, (fun _ => hS1)⟩ ?_
                        rotate_left
                        · rintro w ⟨hSw, hSx⟩
                          (try dsimp only at hSw)
                          clear hSx
                          go_simp
                          first | done | with_reducible rfl
                        (try simp only [Act.put, List.setIfInBounds_toArray, List.set_cons_zero, List.set_cons_succ])
                        refine wpAnyU_one (i := 12) (by kernel_rfl) (by simp only [List.getElem?_toArray, List.getElem?_cons_succ, List.getElem?_cons_zero]; rfl) ?_
                        intro K hK
                        go_simp
                        clear hS0
                        have hS0 := hS0b
                        refine hK.out _ _ ⟨hS0, (fun h => absurd h (by decide))⟩ ?_
                        clear hK
                        (try simp only [Act.put, List.setIfInBounds_toArray, List.set_cons_zero, List.set_cons_succ])
                        refine wpAnyU_done (by kernel_rfl) ?_ _
                        refine NoPanic.normal ?_
                        clear hS0 hS1
                        go_wp2_with fail
                        go_roundw
                        case rel => exact ⟨g + 1, _, by omega, by go_num, by rw [HPos.out], by rw [HJ1.out]; exact HS10.out, HB10.out⟩
                        case measure => simp [intOf]; omega
                    · have hjzd : decide ((j : Int) < (zs.length : Int)) = false := decide_eq_false (by omega)
                      have hn0 : n = 0 := by
                        rw [hnz]; unfold nB; rw [List.getD_eq_getElem?_getD, List.getElem?_eq_none (by omega)]; rfl
                      have HS7 : Hid (Sep W.heap.size wr [obRow (.slice lo g lc) 39 1 g (u64s (rK xs ys k h g)), obBlk XB (.cells #[.int .i64 (3 * (h : Int)), .slice lo g lc] 37), obFold (.pointer (some ⟨b0, 0, none⟩)) D N F, obBlk LB (.cells (u64s (aL xs ys k (j))).toArray 39), obBlk BB (.cells #[.slice ao xs.length ac, .slice bo ys.length bc] 23), obRow u13 60 5 (wL xs ys k (j + 1)).length (spC (posSp F.n (wL xs ys k (j + 1)))), obRws u12 37 vs (rowsK xs ys k h)]) := Lib.hid (by rw [HWs.out hn0]; exact HSg.out)
                      have HB7 := HBg
                      have HV : Hid ((tK xs ys k j) = tK xs ys k j + nK xs ys k j) := Lib.hid (by rw [← HNn.out, hn0, Int.add_zero])
                      have HPos : Hid (F.n + sumI (manyOf (wL xs ys k (4 * h + (g + 1)))) = F.n + s) := Lib.hid (by rw [HPos.out, hn0, Int.add_zero])
                      clear hn0 hnz
                      obtain ⟨w7, rfl⟩ : ∃ w7, w7 = wr := ⟨_, rfl⟩
                      have f1 : w7.cell? ⟨LB, j, none⟩ = some (.int .u64 (tK xs ys k j)) := by rw [cell_of_row w7 LB j _ _ _ (HS7.out.get 3 rfl)]; exact HAi.out
                      have f2 : w7.frozen? ⟨LB, j, none⟩ = false := by have hh : w7.heap[LB]? = _ := HS7.out.get 3 rfl; simp [World.frozen?, hh]
                      have hk8 := (Keep.refl (fun q => q = LB) w7).setCell (p := ⟨LB, j, none⟩) (Or.inl rfl) (.int .u64 (tK xs ys k j))
                      have hs8 := HS7.out.set 3 rfl hk8 (obBlk_good LB (.cells (u64s (aL xs ys k (j + 1))).toArray 39)) (by
                        have hh := heap_setCell_same w7 LB j _ _ (.int .u64 (tK xs ys k j)) (HS7.out.get 3 rfl)
                        have ha := aL_set xs ys k j hj8
                        rw [← HV.out] at ha
                        rw [ha] at hh
                        exact hh) (fun q hq => Or.inl hq)
                      have HB8 := Lib.hid (HS7.out.belowAt HB7.out 3 rfl hk8)
                      have HS8 := Lib.hid hs8
                      clear hk8 hs8
                      go_wp2_with fail
                      obtain ⟨w8, hw8⟩ : ∃ w8, w8 = w7.setCell ⟨LB, j, none⟩ (.int .u64 (tK xs ys k j)) := ⟨_, rfl⟩
                      rw [← hw8] at HS8 HB8 ⊢
                      clear hw8 f1 f2
                      have HAj : Hid ((u64s (aL xs ys k (j + 1))).toArray[j]? = some (.int .u64 (tK xs ys k j))) := Lib.hid (by rw [List.getElem?_toArray, List.getElem?_map, aL_at _ _ _ _ _ hj8, if_pos (by omega)]; exact congrArg (fun x => some (Value.int IntKind.u64 x)) HV.out.symm)
                      have HAll : Hid (∀ W', Below w8.heap.size w8 W' → (W'.cell? ⟨LB, j, none⟩ = some (.int .u64 (tK xs ys k j))) ∧ (W'.cell? ⟨XB, 1, none⟩ = some (.slice lo g lc))) := Lib.hid (fun W' hW' => by
                        have hs := HS8.out.step hW'
                        exact ⟨by rw [cell_of_row W' LB j _ _ _ (hs.get 3 rfl)]; exact HAj.out, World.news_of_block (hs.get 1 rfl) 1 _ rfl⟩)
                      have hw4 : IntKind.i64.wrap (4 * (h : Int)) = 4 * (h : Int) := IntWalk.i64_in _ (by omega)
                      have hwj : IntKind.i64.wrap (j : Int) = (j : Int) := IntWalk.i64_in _ (by omega)
                      have hbb : Below w8.heap.size w8 (w8.drew.alloc (.cells #[.int .u64 (tK xs ys k j)] 39)) := ((Below.refl _ w8).drew).alloc (by simp) _
                      have HSb := Lib.hid (HS8.out.step hbb)
                      have HBb := Lib.hid (HB8.out.trans (hbb.mono HB8.out.size))
                      clear hbb
                      refine wp_region_noPanic ?_
                      refine wp_region_U (fun w' => w'.cell? ⟨LB, j, none⟩ = some (.int .u64 (tK xs ys k j))) (fun w' => w'.cell? ⟨XB, 1, none⟩ = some (.slice lo g lc)) 12 (by kernel_rfl) ?_
                      have hS0 := (HAll.out _ ((Below.refl _ w8).drew)).1
                      have hS1 := (HAll.out _ ((Below.refl _ w8).drew)).2
                      refine wpAnyU_take (i := 0) (v := ?_) false (by simp only [List.getElem?_toArray, List.getElem?_cons_zero]; rfl) (by kernel_rfl) (by kernel_rfl) (by kernel_rfl) (fun _ _ _ h => h) (by kernel_rfl) (by decide) (Or.inl ⟨by rfl, ?_⟩) ⟨hS0, (fun _ => hS1)⟩ ?_
                      rotate_left
                      · rintro w ⟨hSw, hSx⟩
                        (try dsimp only at hSw)
                        clear hSx
                        go_simp
                        first | done | with_reducible rfl
                      (try simp only [Act.put, List.setIfInBounds_toArray, List.set_cons_zero, List.set_cons_succ])
                      refine wpAnyU_take (i := 1) (v := ?_) true (by simp only [List.getElem?_toArray, List.getElem?_cons_succ, List.getElem?_cons_zero]; rfl) (by kernel_rfl) (by kernel_rfl) (by kernel_rfl) (fun _ _ _ h => h) (by kernel_rfl) (by decide) (Or.inl ⟨by rfl, ?_⟩) ⟨hS0, (fun _ => hS1)⟩ ?_
                      rotate_left
                      · rintro w ⟨hSw, hSx⟩
                        (try dsimp only at hSw)
                        have hSx := hSx rfl
                        (try dsimp only at hSx)
                        go_simp
                        first | done | with_reducible rfl
                      (try simp only [Act.put, List.setIfInBounds_toArray, List.set_cons_zero, List.set_cons_succ])
                      refine wpAnyU_take (i := 2) (v := ?_) false (by simp only [List.getElem?_toArray, List.getElem?_cons_succ, List.getElem?_cons_zero]; rfl) (by kernel_rfl) (by kernel_rfl) (by kernel_rfl) (fun _ _ _ h => h) (by kernel_rfl) (by decide) (Or.inl ⟨by rfl, ?_⟩) ⟨hS0, (fun _ => hS1)⟩ ?_
                      rotate_left
                      · rintro w ⟨hSw, hSx⟩
                        (try dsimp only at hSw)
                        clear hSx
                        go_simp
                        first | done | with_reducible rfl
                      (try simp only [Act.put, List.setIfInBounds_toArray, List.set_cons_zero, List.set_cons_succ])
                      refine wpAnyU_take (i := 3) (v := ?_) false (by simp only [List.getElem?_toArray, List.getElem?_cons_succ, List.getElem?_cons_zero]; rfl) (by kernel_rfl) (by kernel_rfl) (by kernel_rfl) (fun _ _ _ h => h) (by kernel_rfl) (by decide) (Or.inl ⟨by rfl, ?_⟩) ⟨hS0, (fun _ => hS1)⟩ ?_
                      rotate_left
                      · rintro w ⟨hSw, hSx⟩
                        (try dsimp only at hSw)
                        clear hSx
                        go_simp
                        first | done | with_reducible rfl
                      (try simp only [Act.put, List.setIfInBounds_toArray, List.set_cons_zero, List.set_cons_succ])
                      refine wpAnyU_take (i := 4) (v := ?_) false (by simp only [List.getElem?_toArray, List.getElem?_cons_succ, List.getElem?_cons_zero]; rfl) (by kernel_rfl) (by kernel_rfl) (by kernel_rfl) (fun _ _ _ h => h) (by kernel_rfl) (by decide) (Or.inl ⟨by rfl, ?_⟩) ⟨hS0, (fun _ => hS1)⟩ ?_
                      rotate_left
                      · rintro w ⟨hSw, hSx⟩
                        (try dsimp only at hSw)
                        clear hSx
                        go_simp
                        first | done | with_reducible rfl
                      (try simp only [Act.put, List.setIfInBounds_toArray, List.set_cons_zero, List.set_cons_succ])
                      refine wpAnyU_take (i := 5) (v := ?_) false (by simp only [List.getElem?_toArray, List.getElem?_cons_succ, List.getElem?_cons_zero]; rfl) (by kernel_rfl) (by kernel_rfl) (by kernel_rfl) (fun _ _ _ h => h) (by kernel_rfl) (by decide) (Or.inl ⟨by rfl, ?_⟩) ⟨hS0, (fun _ => hS1)⟩ ?_
                      rotate_left
                      · rintro w ⟨hSw, hSx⟩
                        (try dsimp only at hSw)
                        clear hSx
                        go_simp
                        first | done | with_reducible rfl
                      (try simp only [Act.put, List.setIfInBounds_toArray, List.set_cons_zero, List.set_cons_succ])
                      refine wpAnyU_take (i := 6) (v := ?_) false (by simp only [List.getElem?_toArray, List.getElem?_cons_succ, List.getElem?_cons_zero]; rfl) (by kernel_rfl) (by kernel_rfl) (by kernel_rfl) (fun _ _ _ h => h) (by kernel_rfl) (by decide) (Or.inl ⟨by rfl, ?_⟩) ⟨hS0, (fun _ => hS1)⟩ ?_
                      rotate_left
                      · rintro w ⟨hSw, hSx⟩
                        (try dsimp only at hSw)
                        clear hSx
                        go_simp
                        first | done | with_reducible rfl
                      (try simp only [Act.put, List.setIfInBounds_toArray, List.set_cons_zero, List.set_cons_succ])
                      refine wpAnyU_take (i := 7) (v := ?_) false (by simp only [List.getElem?_toArray, List.getElem?_cons_succ, List.getElem?_cons_zero]; rfl) (by kernel_rfl) (by kernel_rfl) (by kernel_rfl) (fun _ _ _ h => h) (by kernel_rfl) (by decide) (Or.inl ⟨by rfl, ?_⟩) ⟨hS0, (fun _ => hS1)⟩ ?_
                      rotate_left
                      · rintro w ⟨hSw, hSx⟩
                        (try dsimp only at hSw)
                        clear hSx
                        go_simp
                        first | done | with_reducible rfl
                      (try simp only [Act.put, List.setIfInBounds_toArray, List.set_cons_zero, List.set_cons_succ])
                      refine wpAnyU_take (i := 8) (v := ?_) false (by simp only [List.getElem?_toArray, List.getElem?_cons_succ, List.getElem?_cons_zero]; rfl) (by kernel_rfl) (by kernel_rfl) (by kernel_rfl) (fun _ _ _ h => h) (by kernel_rfl) (by decide) (Or.inl ⟨by rfl, ?_⟩) ⟨hS0, (fun _ => hS1)⟩ ?_
                      rotate_left
                      · rintro w ⟨hSw, hSx⟩
                        (try dsimp only at hSw)
                        clear hSx
                        go_simp
                        first | done | with_reducible rfl
                      (try simp only [Act.put, List.setIfInBounds_toArray, List.set_cons_zero, List.set_cons_succ])
                      refine wpAnyU_one (i := 9) (by kernel_rfl) (by simp only [List.getElem?_toArray, List.getElem?_cons_succ, List.getElem?_cons_zero]; rfl) ?_
                      intro K hK
                      go_simp
                      clear hS0 hS1
                      have hS0 := (HAll.out _ (((Below.refl _ w8).drew).alloc (by simp) (.cells #[.int .u64 (tK xs ys k j)] 39))).1
                      have hS1 := (HAll.out _ (((Below.refl _ w8).drew).alloc (by simp) (.cells #[.int .u64 (tK xs ys k j)] 39))).2
                      refine hK.out _ _ ⟨hS0, (fun _ => hS1)⟩ ?_
                      clear hK
                      (try simp only [Act.put, List.setIfInBounds_toArray, List.set_cons_zero, List.set_cons_succ])
                      refine wpAnyU_one (i := 10) (by kernel_rfl) (by simp only [List.getElem?_toArray, List.getElem?_cons_succ, List.getElem?_cons_zero]; rfl) ?_
                      intro K hK
                      refine step_append_lies _ (by rfl) (.tmp 116) (.tmp 124) 27 (by rfl) 0 39 j0 _ 1 8 Try.underlying27 hj hy0 hy1 hy2 rfl (by omega) (.slice lo g lc) g (u64s (rK xs ys k h g)) (by rfl) (HSb.out.get 0 rfl) ⟨w8.heap.size, 0, none⟩ 1 1 [.int .u64 (tK xs ys k j)] (by rfl) (by rfl) (World.news_of_block (cs := #[.int .u64 (tK xs ys k j)]) (t := 39) (fr := (0, 0)) (heap_alloc_new _ _)) (by simp [Value.oneCell']) (by omega) (by unfold maxLen; omega) (by omega) (Nat.zero_le _) (w8.heap.size + 1) (by simp) ?_
                      intro g9 cap9 w9 hown9 hg9 hor9 hlt9
                      clear hS0 hS1
                      have hk9 : Keep (obRow (.slice lo g lc) 39 1 g (u64s (rK xs ys k h g))).foot (w8.drew.alloc (.cells #[.int .u64 (tK xs ys k j)] 39)) w9 := Keep.grown hg9 (fun q hq => hq)
                      have hs9 := HSb.out.set 0 rfl hk9 (obRow_good (.slice (some ⟨g9, 0, none⟩) (g + 1) cap9) 39 1 (g + 1) (u64s (rK xs ys k h (g + 1)))) (by show w9.ownsRow 0 39 1 _ (g + 1) _; rw [HRk.out, ← HV.out, u64s_app]; exact hown9) (fun q hq => by cases hq; rcases hor9 with e | e; exact Or.inl e; exact Or.inr (by simp; omega))
                      have hb9 := HSb.out.belowAt HBb.out 0 rfl hk9
                      have hx9 : w9.heap[XB]? = some (.cells #[.int .i64 (3 * (h : Int)), .slice lo g lc] 37) := hs9.get 1 rfl
                      have hS0 : w9.cell? ⟨LB, j, none⟩ = some (.int .u64 (tK xs ys k j)) := by rw [cell_of_row w9 LB j _ _ _ (hs9.get 3 rfl)]; exact HAj.out
                      have hS1 : w9.cell? ⟨XB, 1, none⟩ = some (.slice lo g lc) := World.news_of_block hx9 1 _ rfl
                      have z91 : w9.frozen? ⟨XB, 1, none⟩ = false := by simp [World.frozen?, hx9]
                      have hx10 := heap_setCell_same w9 XB 1 _ _ (.slice (some ⟨g9, 0, none⟩) (g + 1) cap9) hx9
                      have hk10 := (Keep.refl (fun q => q = XB) w9).setCell (p := ⟨XB, 1, none⟩) (Or.inl rfl) (.slice (some ⟨g9, 0, none⟩) (g + 1) cap9)
                      have HS10 := Lib.hid (hs9.set 1 rfl hk10 (obBlk_good XB (.cells #[.int .i64 (3 * (h : Int)), .slice (some ⟨g9, 0, none⟩) (g + 1) cap9] 37)) (by show (w9.setCell ⟨XB, 1, none⟩ (.slice (some ⟨g9, 0, none⟩) (g + 1) cap9)).heap[XB]? = _; simpa using hx10) (fun q hq => Or.inl hq))
                      have HB10 := Lib.hid (hs9.belowAt hb9 1 rfl hk10)
                      have hLX : LB ≠ XB := fun e => hs9.two (i := 1) (j := 3) (by omega) rfl rfl XB rfl e.symm
                      have hS0b := hk10.cell hS0 hLX
                      clear hown9 hg9 hor9 hlt9 hk9 hs9 hb9 hx9 hx10 hk10 hLX
                      refine hK.out _ _ ⟨hS0, (fun _ => hS1)⟩ ?_
                      clear hK
                      (try simp only [Act.put, List.setIfInBounds_toArray, List.set_cons_zero, List.set_cons_succ])
                      refine wpAnyU_take (i := 11) (v := ?_) false (by simp only [List.getElem?_toArray, List.getElem?_cons_succ, List.getElem?_cons_zero]; rfl) (by kernel_rfl) (by kernel_rfl) (by kernel_rfl) (fun _ _ _ h => h) (by kernel_rfl) (by decide) (Or.inl ⟨by rfl, ?_⟩) ⟨hS0, (fun _ => hS1)⟩ ?_
                      rotate_left
                      · rintro w ⟨hSw, hSx⟩
                        (try dsimp only at hSw)
                        clear hSx
                        go_simp
                        first | done | with_reducible rfl
                      (try simp only [Act.put, List.setIfInBounds_toArray, List.set_cons_zero, List.set_cons_succ])
                      refine wpAnyU_one (i := 12) (by kernel_rfl) (by simp only [List.getElem?_toArray, List.getElem?_cons_succ, List.getElem?_cons_zero]; rfl) ?_
                      intro K hK
                      go_simp
                      clear hS0
                      have hS0 := hS0b
                      refine hK.out _ _ ⟨hS0, (fun h => absurd h (by decide))⟩ ?_
                      clear hK
                      (try simp only [Act.put, List.setIfInBounds_toArray, List.set_cons_zero, List.set_cons_succ])
                      refine wpAnyU_done (by kernel_rfl) ?_ _
                      refine NoPanic.normal ?_
                      clear hS0 hS1
                      go_wp2_with fail
                      go_roundw
                      case rel => exact ⟨g + 1, _, by omega, by go_num, by rw [HPos.out], by rw [HJ1.out]; exact HS10.out, HB10.out⟩
                      case measure => simp [intOf]; omega
                  · have hg4 : g = 4 := by omega
                    subst hg4
                    clear hlt3 hg hj'
                    obtain ⟨lb, lc, hlv, _⟩ := own_pos (HSg.out.get 0 rfl) (by decide)
                    subst hlv
                    have HR4 : Hid ((rK xs ys k h 4).take 4 = rK xs ys k h 4) := Lib.hid (by rw [List.take_of_length_le (by rw [rK_len]; exact Nat.le_refl _)])
                    go_wp2_with fail
                    (try rw [show ((4 : Nat) : Int) = 4 from rfl])
                    go_loopg [127] 4 (fun m _ wr => m ≤ 4 ∧ Sep W.heap.size wr [obRow (.slice (some ⟨lb, 0, none⟩) m lc) 39 1 m (u64s ((rK xs ys k h 4).take (m))), obBlk XB (.cells #[.int .i64 (3 * (h : Int)), (.slice (some ⟨lb, 0, none⟩) m lc)] 37), obFold (.pointer (some ⟨b0, 0, none⟩)) D N F, obBlk LB (.cells (u64s (aL xs ys k (j))).toArray 39), obBlk BB (.cells #[.slice ao xs.length ac, .slice bo ys.length bc] 23), obRow u13 60 5 (wL xs ys k (j)).length (spC (posSp F.n (wL xs ys k (j)))), obRws u12 37 vs (rowsK xs ys k h)] ∧ (∀ i : Nat, m ≤ i → i < 4 → tK xs ys (k + 1) (4 * h + i) = 0) ∧ Below W.heap.size W wr)
                    case atStart => exact ⟨Nat.le_refl _, by rw [HR4.out]; exact HSg.out, (fun i h1 h2 => by omega), HBg.out⟩
                    case round =>
                      clear HSg HBg HR4
                      obtain ⟨hm4, hsep, hze, hbw⟩ := hrel
                      obtain ⟨m, rfl⟩ : ∃ m, m = gk := ⟨_, rfl⟩
                      have HSm := Lib.hid hsep
                      have HBm := Lib.hid hbw
                      have HZe := Lib.hid hze
                      clear hsep hbw hze
                      have hcap : m ≤ lc := by
                        have := (HSm.out.get 0 rfl : World.ownsRow _ _ _ _ _ _ _)
                        obtain ⟨_, _, he, h1, _⟩ := own_form this
                        cases he; exact h1
                      have hcap2 : lc ≤ 9223372036854775807 := by
                        have := (HSm.out.get 0 rfl : World.ownsRow _ _ _ _ _ _ _)
                        obtain ⟨_, _, he, _, h2⟩ := own_form this
                        cases he; exact h2
                      have hx : wr.heap[XB]? = some (.cells #[.int .i64 (3 * (h : Int)), (.slice (some ⟨lb, 0, none⟩) m lc)] 37) := HSm.out.get 1 rfl
                      have c0 : wr.cell? ⟨XB, 0, none⟩ = some (.int .i64 (3 * (h : Int))) := World.news_of_block hx 0 _ rfl
                      have c1 : wr.cell? ⟨XB, 1, none⟩ = some (.slice (some ⟨lb, 0, none⟩) m lc) := World.news_of_block hx 1 _ rfl
                      have z1 : wr.frozen? ⟨XB, 1, none⟩ = false := by simp [World.frozen?, hx]
                      have HX := Lib.hid hx
                      clear hx
                      by_cases hgo : 0 < m ∧ tK xs ys (k + 1) (4 * h + (m - 1)) = 0
                      · obtain ⟨hm0, htz⟩ := hgo
                        obtain ⟨m, rfl⟩ : ∃ m', m = m' + 1 := ⟨m - 1, by omega⟩
                        simp only [Nat.add_sub_cancel] at htz
                        have e1 : wr.cell? ⟨lb, m, none⟩ = some (.int .u64 0) := by
                          have hc := (HSm.out.get 0 rfl : World.ownsRow _ _ _ _ _ _ _).cells (g := lb) rfl m (.int .u64 0) (by
                            rw [List.getElem?_map, List.getElem?_take_of_lt (by omega)]
                            have : (rK xs ys k h 4)[m]? = some 0 := by unfold rK; rw [List.getElem?_map, List.getElem?_range (by omega)]; exact congrArg some htz
                            rw [this]; rfl)
                          have ha : (⟨lb, 0, none⟩ : Addr).add m = ⟨lb, m, none⟩ := by unfold Addr.add; split <;> simp_all
                          rwa [ha] at hc
                        have hk1 := (Keep.refl (fun q => q = XB) wr).setCell (p := ⟨XB, 1, none⟩) (Or.inl rfl) (.slice (some ⟨lb, 0, none⟩) m lc)
                        have hs1 := HSm.out.set 1 rfl hk1 (obBlk_good XB (.cells #[.int .i64 (3 * (h : Int)), (.slice (some ⟨lb, 0, none⟩) m lc)] 37)) (by
                          have hh := heap_setCell_same wr XB 1 _ _ (.slice (some ⟨lb, 0, none⟩) m lc) HX.out
                          show (wr.setCell ⟨XB, 1, none⟩ (.slice (some ⟨lb, 0, none⟩) m lc)).heap[XB]? = _
                          simpa using hh) (fun q hq => Or.inl hq)
                        have hb1 := HSm.out.belowAt HBm.out 1 rfl hk1
                        have hs2 := hs1.set 0 rfl (Keep.refl _ _) (obRow_good (.slice (some ⟨lb, 0, none⟩) m lc) 39 1 m (u64s ((rK xs ys k h 4).take m))) (by
                          have hh := own_shrink (hs1.get 0 rfl : World.ownsRow _ _ _ _ _ _ _)
                          rw [← List.map_take, List.take_take, Nat.min_eq_left (Nat.le_succ _)] at hh
                          exact hh) (fun q hq => Or.inl hq)
                        have HS2 := Lib.hid hs2
                        have HB2 := Lib.hid hb1
                        have HZ2 : Hid (∀ i : Nat, m ≤ i → i < 4 → tK xs ys (k + 1) (4 * h + i) = 0) := Lib.hid (fun i h1 h2 => by
                          by_cases e : i = m
                          · subst e; exact htz
                          · exact HZe.out i (by omega) h2)
                        clear hk1 hs1 hb1 hs2 htz
                        have hmi : (m : Int) < (m : Int) + 1 := by omega
                        have hml : m ≤ lc := by omega
                        go_wp2_with fail
                        go_roundg m
                        case measure => omega
                        case rel => exact ⟨by omega, HS2.out, HZ2.out, HB2.out⟩
                      · have hcut : cutI (rK xs ys k h 4) = (rK xs ys k h 4).take m := by
                          have hat : ∀ i : Nat, i < 4 → atI (rK xs ys k h 4) i = tK xs ys (k + 1) (4 * h + i) := fun i hi => by unfold rK; rw [range4, if_pos hi]
                          refine cutI_take _ m (by rw [rK_len]; exact hm4) (fun i h1 h2 => ?_) ?_
                          · rw [rK_len] at h2
                            rw [hat i h2]; exact HZe.out i h1 h2
                          · by_cases e : m = 0
                            · exact Or.inl e
                            · refine Or.inr ?_
                              have := hat (m - 1) (by omega)
                              rw [show ((m : Int) - 1) = ((m - 1 : Nat) : Int) by omega, this]
                              intro hh; exact hgo ⟨by omega, hh⟩
                        have HCut := Lib.hid hcut
                        have hlen4 : (rowsK xs ys k h).length = h := rowsK_len ..
                        have HL4 := Lib.hid hlen4
                        have htst : m = 0 ∨ ∃ m', m = m' + 1 ∧ wr.cell? ⟨lb, m', none⟩ = some (.int .u64 (tK xs ys (k + 1) (4 * h + m'))) ∧ (tK xs ys (k + 1) (4 * h + m') == 0) = false := by
                          by_cases e : m = 0
                          · exact Or.inl e
                          · refine Or.inr ⟨m - 1, by omega, ?_, ?_⟩
                            · have hc := (HSm.out.get 0 rfl : World.ownsRow _ _ _ _ _ _ _).cells (g := lb) rfl (m - 1) (.int .u64 (tK xs ys (k + 1) (4 * h + (m - 1)))) (by
                                rw [List.getElem?_map, List.getElem?_take_of_lt (by omega)]
                                have : (rK xs ys k h 4)[m - 1]? = some (tK xs ys (k + 1) (4 * h + (m - 1))) := by unfold rK; rw [List.getElem?_map, List.getElem?_range (by omega)]; rfl
                                rw [this]; rfl)
                              have ha : (⟨lb, 0, none⟩ : Addr).add (m - 1) = ⟨lb, m - 1, none⟩ := by unfold Addr.add; split <;> simp_all
                              rwa [ha] at hc
                            · rw [beq_eq_false_iff_ne]; intro hh; exact hgo ⟨by omega, hh⟩
                        have hs0 : Sep W.heap.size wr [obRws u12 37 vs (rowsK xs ys k h), obRow (.slice (some ⟨lb, 0, none⟩) m lc) 39 1 m (u64s (cutI (rK xs ys k h 4))), obBlk XB (.cells #[.int .i64 (3 * (h : Int)), (.slice (some ⟨lb, 0, none⟩) m lc)] 37), obFold (.pointer (some ⟨b0, 0, none⟩)) D N F, obBlk LB (.cells (u64s (aL xs ys k j)).toArray 39), obBlk BB (.cells #[.slice ao xs.length ac, .slice bo ys.length bc] 23), obRow u13 60 5 (wL xs ys k j).length (spC (posSp F.n (wL xs ys k j)))] := by rw [hcut]; exact HSm.out.front 6 rfl
                        have HS0 := Lib.hid hs0
                        have hrl : (rowsK xs ys k h).length ≤ 1099511627776 := by rw [rowsK_len]; omega
                        have hri := (hs0.get 0 rfl : (obRws u12 37 vs (rowsK xs ys k h)).inv wr)
                        obtain ⟨ro, rc, hrv, _, _⟩ := own_form hri.1
                        subst hrv
                        have HRi := Lib.hid hri.1
                        have HJ4 : Hid (4 * (h + 1) = j) := Lib.hid (by have := HJ.out; omega)
                        have HU2 : Hid (∀ u ∈ (#[.int .i64 (3 * (h : Int)), .slice (some ⟨lb, 0, none⟩) m lc] : Array Value).toList, u.oneCell' = true) := Lib.hid (by intro u hu; simp at hu; rcases hu with rfl | rfl <;> rfl)
                        have HRn : Hid (rowsK xs ys k (h + 1) = rowsK xs ys k h ++ [(3 * (h : Int), cutI (rK xs ys k h 4))]) := Lib.hid (rowsK_succ ..)
                        clear hs0 hcut hgo hlen4 hri
                        rcases htst with rfl | ⟨m, rfl, e1, e2⟩
                        all_goals
                          go_wp2_with (first
                            | (at_builtin; (refine wpList_appS rfl (.tmp 150) (.tmp 152) 44 rfl 0 37 r0 _ 2 32 Try.underlying44 hr hr0 hr1 hr2 rfl (by decide) (by decide) rfl rfl rfl rfl HRi.out HU2.out hrl (Nat.zero_le _) ?_)
                               intro g7 cap7 w7 hown7 hg7 hor7
                               have HOwn7 := Lib.hid hown7
                               have HG7 := Lib.hid hg7
                               have HOr7 := Lib.hid hor7
                               clear hown7 hg7 hor7)
                            | fail)
                          obtain ⟨hsA, hkA⟩ := HS0.out.rowApp HG7.out HOr7.out HOwn7.out
                          have HSA := Lib.hid ((hsA.sub (List.Sublist.cons_cons _ (List.sublist_cons_self _ _))).perm (List.perm_append_comm (l₁ := [_]) (l₂ := [_, _, _, _])))
                          have HBA := Lib.hid (HS0.out.belowAt HBm.out 0 rfl (hkA.mono (fun q _ hq => Or.inl hq)))
                          clear hsA hkA
                          go_roundw
                          case rel => exact ⟨h + 1, _, by omega, by go_num, by rw [HJ4.out], by rw [HJ4.out, HRn.out]; exact HSA.out, HBA.out⟩
                          case measure => simp [intOf]; omega
              · have hh2 : h = 2 := by omega
                subst hh2
                clear hlt2 hh
                have hsep8 : Sep W.heap.size wr [obFold (.pointer (some ⟨b0, 0, none⟩)) D N F, obBlk LB (.cells (u64s (aL xs ys k 8)).toArray 39), obBlk BB (.cells #[.slice ao xs.length ac, .slice bo ys.length bc] 23), obRow u13 60 5 (wL xs ys k 8).length (spC (posSp F.n (wL xs ys k 8))), obRws u12 37 vs (rowsK xs ys k 2)] := HSep.out
                have HS8 := Lib.hid hsep8
                obtain ⟨hE, hSp, hCF⟩ := cuts_go hlt HCF.out
                have HE := Lib.hid hE
                have HSp := Lib.hid hSp
                have HCF2 := Lib.hid hCF
                have hFl := HCF.out.l
                have hFn := HCF.out.n
                have hw8 := wL_le xs ys k 8
                obtain ⟨s, hs⟩ : ∃ s, s = sumI (manyOf (wL xs ys k 8)) := ⟨_, rfl⟩
                obtain ⟨wn, hwn⟩ : ∃ wn, wn = (wL xs ys k 8).length := ⟨_, rfl⟩
                obtain ⟨fl, hfl⟩ : ∃ fl, fl = F.l.length := ⟨_, rfl⟩
                rw [← hs, ← hwn] at hw8
                rw [← hfl] at hFl
                have HSs := Lib.hid hs
                have HWn := Lib.hid hwn
                have HFl := Lib.hid hfl
                obtain ⟨wo, wc, hwv, _, _⟩ := own_form (show World.ownsRow wr 0 60 5 u13 (wL xs ys k 8).length (spC (posSp F.n (wL xs ys k 8))) from hsep8.get 3 rfl)
                subst hwv
                have hri := (hsep8.get 4 rfl : (obRws u12 37 vs (rowsK xs ys k 2)).inv wr)
                obtain ⟨ro, rc, hrv, _, _⟩ := own_form hri.1
                subst hrv
                clear hsep8 hE hSp hCF hs hwn hfl hri HSep
                have HS8 := Lib.hid HS8.out
                go_wp2_with fail
                rw [show sumI (manyOf (wL xs ys k (4 * 2))) = s from HSs.out.symm]
                (try rw [show ((2 : Nat) : Int) = 2 from rfl])
                refine (sep_spans HS8.out (by rw [← HFl.out]; omega)).mono ?_
                rintro e w3 ⟨so, sc, rfl, hs3, hb3⟩
                rw [← HFl.out]
                have hs3 : Sep W.heap.size w3 [obFold (.pointer (some ⟨b0, 0, none⟩)) D N F, obBlk LB (.cells (u64s (aL xs ys k 8)).toArray 39), obBlk BB (.cells #[.slice ao xs.length ac, .slice bo ys.length bc] 23), obRow (.slice wo (wL xs ys k 8).length wc) 60 5 (wL xs ys k 8).length (spC (posSp F.n (wL xs ys k 8))), obRws (.slice ro (rowsK xs ys k 2).length rc) 37 vs (rowsK xs ys k 2)] := hs3.sub (List.sublist_cons_self _ _)
                have HS3 := Lib.hid hs3
                have HB3 := Lib.hid (HBw.out.trans (hb3.mono HBw.out.size))
                clear hs3 hb3
                go_wp2_with fail
                refine (sep_cut HS3.out (i := 3) rfl (by rw [rowsK_len]; omega) (rowsK_ok xs ys k) (by
                  intro r hr
                  rw [rowsK_two] at hr
                  simp at hr
                  rcases hr with rfl | rfl
                  · intro x hx; exact rK_u64 xs ys k 0 4 x (cutI_mem hx)
                  · intro x hx; exact rK_u64 xs ys k 1 4 x (cutI_mem hx)) (by rw [← HFl.out]; omega) (by omega)).mono ?_
                rintro e w4 ⟨rfl, ⟨D4, hs4⟩, hk4⟩
                rw [HE.out]
                have hR : cutR F (rowsK xs ys k 2) = cutF F (rowsK xs ys k 2) := by unfold cutR; rw [if_pos HE.out]
                have hF4l : (cutF F (rowsK xs ys k 2)).l = F.l ++ posSp F.n (wL xs ys k 8) := by show F.l ++ posSp F.n (rowsSp F (rowsK xs ys k 2)) = _; rw [HSp.out]
                have hF4n : (cutF F (rowsK xs ys k 2)).n = F.n + s := by show F.n + sumI (manyOf (rowsSp F (rowsK xs ys k 2))) = _; rw [HSp.out, HSs.out]
                rw [hR] at hs4
                have HB4 := Lib.hid (HS3.out.belowAt HB3.out 0 rfl hk4)
                obtain ⟨F4, hF4⟩ : ∃ F4, F4 = cutF F (rowsK xs ys k 2) := ⟨_, rfl⟩
                rw [← hF4] at hs4 hF4l hF4n HCF2
                have HS4 := Lib.hid hs4
                have HF4l := Lib.hid hF4l
                have HF4n := Lib.hid hF4n
                have hl4 : F4.l.length = fl + wn := by rw [hF4l, List.length_append, posSp_len, ← HFl.out, ← HWn.out]
                have HL4 := Lib.hid hl4
                clear hs4 hF4l hF4n hR hF4 hk4 hl4
                go_wp2_with fail
                refine (sep_spans HS4.out (by rw [HL4.out]; omega)).mono ?_
                rintro e w5 ⟨so6, sc6, rfl, hs5, hb5⟩
                obtain ⟨nl, hnl⟩ : ∃ nl, nl = fl + wn := ⟨_, rfl⟩
                rw [HL4.out, ← hnl, ← HWn.out] at hs5
                rw [HL4.out, ← hnl, ← HWn.out]
                have HS5 : Hid (Sep W.heap.size w5 [obRow (.slice so6 nl sc6) 60 5 nl (spC F4.l), obFold (.pointer (some ⟨b0, 0, none⟩)) D4 (N + 9) F4, obBlk LB (.cells (u64s (aL xs ys k 8)).toArray 39), obBlk BB (.cells #[.slice ao xs.length ac, .slice bo ys.length bc] 23), obRow (.slice wo wn wc) 60 5 wn (spC (posSp F.n (wL xs ys k 8))), obRws (.slice ro (rowsK xs ys k 2).length rc) 37 vs (rowsK xs ys k 2)]) := Lib.hid hs5
                have HB5 := Lib.hid (HB4.out.trans (hb5.mono HB4.out.size))
                have hnli : (nl : Int) = (fl : Int) + (wn : Int) := by omega
                have HNl := Lib.hid hnl
                clear hs5 hb5 hnl
                go_wp2_with fail
                refine (FoldO.len (HS5.out.get 1 rfl)).mono ?_
                rintro e w6 ⟨rfl, rfl⟩
                rw [HF4n.out]
                go_wp2_with fail
                go_loopw [20] (fun i wr => ∃ q : Nat, q ≤ wn ∧ i = .int .i64 q ∧ Sep W.heap.size wr [obRow (.slice so6 nl sc6) 60 5 nl (spC F4.l), obFold (.pointer (some ⟨b0, 0, none⟩)) D4 (N + 9) F4, obBlk LB (.cells (u64s (aL xs ys k 8)).toArray 39), obBlk BB (.cells #[.slice ao xs.length ac, .slice bo ys.length bc] 23), obRow (.slice wo wn wc) 60 5 wn (spC (posSp F.n (wL xs ys k 8))), obRws (.slice ro (rowsK xs ys k 2).length rc) 37 vs (rowsK xs ys k 2)] ∧ Below W.heap.size W wr) (fun i _ => wn - (intOf i).toNat)
                case atStart => exact ⟨0, by omega, rfl, HS5.out, HB5.out⟩
                case round =>
                  clear HS5 HB5
                  obtain ⟨q, hq, rfl, hsep, hbw⟩ := hrel
                  have HSq := Lib.hid hsep
                  have HBq := Lib.hid hbw
                  by_cases hqw : q < wn
                  · have hqi : (q : Int) < (wn : Int) := by omega
                    obtain ⟨x, hx⟩ : ∃ x, (posSp F.n (wL xs ys k 8))[q]? = some x := ⟨_, List.getElem?_eq_getElem (by rw [posSp_len, ← HWn.out]; exact hqw)⟩
                    obtain ⟨tt, htt⟩ : ∃ tt, tt = fl + q := ⟨_, rfl⟩
                    have hx4 : F4.l[tt]? = some x := by rw [HF4l.out, htt, HFl.out, List.getElem?_append_right (Nat.le_add_right _ _), Nat.add_sub_cancel_left]; exact hx
                    have hnow : World.ownsRow wr 0 60 5 (.slice so6 nl sc6) nl (spC F4.l) := hsep.get 0 rfl
                    have hwant : World.ownsRow wr 0 60 5 (.slice wo wn wc) wn (spC (posSp F.n (wL xs ys k 8))) := hsep.get 4 rfl
                    have hnl2 : nl = F4.l.length := by rw [HNl.out, HL4.out]
                    have hwl2 : wn = (posSp F.n (wL xs ys k 8)).length := by rw [posSp_len, HWn.out]
                    obtain ⟨za, rfl, z0, z1, z2, z3, z4⟩ := (SpL.of_own (l := F4.l) (v := .slice so6 nl sc6) (by rw [← hnl2]; exact hnow)).at tt x hx4
                    obtain ⟨ya, rfl, y0, y1, y2, y3, y4⟩ := (SpL.of_own (l := posSp F.n (wL xs ys k 8)) (v := .slice wo wn wc) (by rw [← hwl2]; exact hwant)).at q x hx
                    obtain ⟨xp, xsh, xsg, xof, xmn⟩ := x
                    have hne := neqSp ⟨xp, xsh, xsg, xof, xmn⟩
                    have hEG : Try.prog.eqGuardType Try.prog.depth 60 = false := by kernel_rfl
                    simp only [spV] at hne
                    simp only at z0 z1 z2 z3 z4 y0 y1 y2 y3 y4
                    have hti : (fl : Int) + (q : Int) = (tt : Int) := by omega
                    have htl : (tt : Int) < (fl : Int) + (wn : Int) := by omega
                    have htw : IntKind.i64.wrap (tt : Int) = (tt : Int) := IntWalk.i64_in _ (by omega)
                    have ht0 : (0 : Int) ≤ (tt : Int) := by omega
                    clear hnow hwant hnl2 hwl2 hx4 hx htt hsep hbw
                    go_wp2_with fail
                    go_quiet (fail)
                    go_wp2_with fail
                    go_roundw
                    case rel => exact ⟨q + 1, by omega, by go_num, HSq.out.step (below_drewN (Below.refl _ _) _), below_drewN HBq.out _⟩
                    case measure => simp [intOf]; omega
                  · have hqe : q = wn := by omega
                    subst hqe
                    have hs9 := (HSq.out.sub (List.sublist_cons_self _ _)).sub (show [obFold (.pointer (some ⟨b0, 0, none⟩)) D4 (N + 9) F4, obBlk LB (.cells (u64s (aL xs ys k 8)).toArray 39), obBlk BB (.cells #[.slice ao xs.length ac, .slice bo ys.length bc] 23)].Sublist [obFold (.pointer (some ⟨b0, 0, none⟩)) D4 (N + 9) F4, obBlk LB (.cells (u64s (aL xs ys k 8)).toArray 39), obBlk BB (.cells #[.slice ao xs.length ac, .slice bo ys.length bc] 23), obRow (.slice wo q wc) 60 5 q (spC (posSp F.n (wL xs ys k 8))), obRws (.slice ro (rowsK xs ys k 2).length rc) 37 vs (rowsK xs ys k 2)] from List.sublist_append_left [_, _, _] _)
                    rw [aL_next xs ys hlt] at hs9
                    have HS9 := Lib.hid hs9
                    clear hs9 hsep hbw
                    go_wp2_with fail
                    go_roundw
                    case rel => exact ⟨k + 1, N + 9, F4, D4, by omega, by omega, by go_num, by rw [HF4n.out], HCF2.out, HS9.out, HBq.out⟩
                    case measure => simp [intOf]; omega
          · have hk2 : k = 2 := by omega
            subst hk2
            go_wp2_with fail
            go_ret
            exact ⟨by first | rfl | simp, HBw.out⟩
theorem foldCuts_holds : Rows.FoldCutsSaid :=
  OpenClaim.holds_of_wide 8 Try.f8 rfl rfl rfl rfl rfl rfl rfl ⟨rfl, rfl, rfl, rfl, rfl⟩ rfl rfl rfl rfl rfl (by kernel_rfl) Try.func8 (by kernel_rfl)
    (of_decide_eq_true (by kernel_rfl)) (by unfold Func.isWrapper; rw [if_neg (by decide +kernel)]; exact ⟨rfl, rfl⟩)
    (fun os started H enc _ => law_frame (C := Try.checked) (fn := Try.f8) (s := Rows.foldCutsSpec) (tb := 4) Try.own started (by kernel_rfl) Try.func8 Try.laidOut rfl (by kernel_rfl) Try.underlying4 (by kernel_rfl)
      (fun ds hd => by match ds, hd with | [_, _], _ => exact ⟨rfl, rfl, rfl⟩)
      (ChangeSpec.witness6 (enc := enc) (C := Try.checked) false ⟨#[], #[.slice none 0 0, .slice none 0 0], []⟩ 8 (by kernel_rfl) (by kernel_rfl) (by kernel_rfl) (by kernel_rfl))
      (fun W base args ds p hval0 hA0 _ => by
        have hval : ∀ (j : Nat) t v, Try.f8.params[j]? = some t → args[j]? = some v → Value.okWide Try.prog W .any base t v := hval0
        have hA : DataW.TrodAll enc Try.prog W 0 (fun _ => true) true Try.f8.params.toList args.toList ds p := hA0
        rw [Try.params8] at hA hval
        obtain ⟨v0, v1, d0, d1, p0, p1, rfl, rfl, rfl, h0, h1⟩ := trodAll_two hA
        obtain ⟨x0, hx0, wx0⟩ := arg_ints Try.underlying23 Try.underlying5 (by kernel_rfl) (hval 0 23 v0 rfl rfl) h0
        obtain ⟨x1, hx1, wx1⟩ := arg_ints Try.underlying23 Try.underlying5 (by kernel_rfl) (hval 1 23 v1 rfl rfl) h1
        exact foldCuts_walk hx0 wx0 hx1 wx1))

end Go.Proofs.Ytabanackdjlcmaa
