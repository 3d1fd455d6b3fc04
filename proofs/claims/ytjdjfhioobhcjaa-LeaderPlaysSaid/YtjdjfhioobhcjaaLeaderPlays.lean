/-
  LeaderPlays: whatever is promised, proposed and voted for, what is told is the document's, step by step. No condition: every input.
-/
import Derived.Test.YtjdjfhioobhcjaaRlN
import Derived.Test.YtjdjfhioobhcjaaFrame
import Derived.Deep.DeepCutAuto
import Derived.Deep.CutBlock
import Derived.Great.BuildSlice
namespace Go.Proofs.Ytjdjfhioobhcjaa
open Go.ChangeShapes Go.WideShapes Go.ChangeAt Go.RowKit Go.Maps Go.Shelf
set_option maxRecDepth 100000
set_option linter.unusedVariables false
set_option linter.unusedSimpArgs false

theorem keep_setRow (w : World) (g : Nat) (cs : Array Value) : Keep (fun k => k = g) w (w.setRow g cs) :=
  ⟨rfl, rfl, rfl, by simp [World.setRow], fun k _ hk => by simp [World.setRow, Array.getElem?_modify, Ne.symm hk]⟩
theorem SepW.blkRow {W w : World} {os : List Ob} (h : SepW W w os) (i : Nat) {b : Nat} {old : Array Value} (cs : Array Value) {t : TypeId} (hi : os[i]? = some (obBlk b (.cells old t))) : SepW W (w.setRow b cs) (os.set i (obBlk b (.cells cs t))) := by
  have hb : w.heap[b]? = some (.cells old t (0, 0)) := h.get i hi
  exact h.set i hi (keep_setRow w b cs) (obBlk_good ..) (show (w.setRow b cs).heap[b]? = some (.cells cs t (0, 0)) by simp [World.setRow, Array.getElem?_modify, hb]) (fun k hk => Or.inl hk)
/-- Stores of values of this type are held as they stand, till their run is known. -/
structure RowMark (t : TypeId) : Prop where
  out : True
def rowStore (t : TypeId) (p v : Value) : Sem Unit := Instr.storeAt t p v
theorem ex_rowStore {P : Program} {ρ : Operand → Value} {w : World} {dst : Option Tmp} {t : TypeId} {x y : Operand} {ty : TypeId} {pos : String} {aft : Array _} {gd : Option _} (_ : RowMark t) :
    Sem.run P (execOp ρ { dst := dst, op := .store t x y, type := ty, pos := pos, after := aft, guard := gd }) w = ((rowStore t (ρ x) (ρ y)).run P w).andThen fun _ w' => .ok .skip w' := by
  unfold execOp rowStore
  simp
theorem run_rowStoreB {P : Program} {w : World} (ty : TypeId) (g : Nat) (cells : Array Value) (t : TypeId) (old : Array Value) (hg : w.heap[g]? = some (.cells old t (0, 0))) (hi : (P.info? ty).map (·.size) = some cells.size)
    (hold : old.size = cells.size) (h1 : cells.all (·.oneCell') = true) : (rowStore ty (.pointer (some ⟨g, 0, none⟩)) (.agg cells)).run P w = .ok () (w.setRow g cells) := by
  unfold rowStore
  simp only [Instr.storeAt, Instr.sureAddr, Sem.run_bind, Sem.run_pure, Result.andThen_ok, run_storeVar_row w g t ty old cells hg hi hold h1]
theorem setRow_alloc0 (w : World) (old cells : Array Value) (t : TypeId) : (w.alloc (.cells old t)).setRow w.heap.size cells = w.alloc (.cells cells t) := by
  unfold World.setRow World.alloc
  congr 1
  apply Array.ext_getElem?
  intro i
  simp only [Array.getElem?_modify, Array.getElem?_push]
  by_cases e : w.heap.size = i
  · subst e; simp
  · simp [e, Ne.symm e]
theorem setRow_alloc1 (w : World) (old cells : Array Value) (t : TypeId) (o : Obj) : ((w.alloc (.cells old t)).alloc o).setRow w.heap.size cells = (w.alloc (.cells cells t)).alloc o := by
  unfold World.setRow World.alloc
  congr 1
  apply Array.ext_getElem?
  intro i
  simp only [Array.getElem?_modify, Array.getElem?_push, Array.size_push]
  by_cases e : w.heap.size = i
  · subst e; simp
  · simp [e, Ne.symm e]
theorem fresh_store {P : Program} (w : World) (old cells : Array Value) (o : Obj) (t : TypeId) (hi : (P.info? t).map (·.size) = some cells.size) (hold : old.size = cells.size) (h1 : cells.all (·.oneCell') = true) :
    (rowStore t (.pointer (some ⟨w.heap.size, 0, none⟩)) (.agg cells)).run P ((w.alloc (.cells old t)).alloc o) = .ok () ((w.alloc (.cells cells t)).alloc o) := by
  rw [run_rowStoreB t w.heap.size cells t old ((Below.heap_alloc _ _ _ (by simp)).trans (heap_alloc_new w _)) hi hold h1, setRow_alloc1]
attribute [local go_sem ↓] ex_rowStore
set_option maxHeartbeats 8000000 in
theorem leaderPlays_walk {W : World} {many : Int} {v0 : Value} {L0 : List Lc} {P : Prop} (wm : P) (h0 : LcL W v0 L0) (w0 : ∀ x ∈ L0, LcOk x) :
    Calls Try.prog 7 #[.int .i64 many, v0] W fun e W' => e = .returned (.bool true) ∧ Below W.heap.size W W' := by
  have H0 := Lib.hid h0
  have HW := Lib.hid w0
  obtain ⟨ao, ac, rfl, hac, ham, _⟩ := h0
  clear w0 wm
  go_enter Try.func7, Try.ntmps7
  go_wp2_with fail
  refine (lawake_any W).mono ?_
  rintro e w1 ⟨rfl, hb1⟩
  have HB1 := Lib.hid hb1
  clear hb1
  by_cases hm : 1 ≤ many ∧ many ≤ 32
  · have hm1 := hm.1
    have hm2 := hm.2
    go_wp2_with fail
    refine ((SepW.nil HB1.out).leaNew hm).mono ?_
    rintro e w2 ⟨b0, D0, rfl, hs2⟩
    have hs3 := ((hs2.stNew many).newBlk #[.int .i64 many, .int .i64 0, .int .u64 0, .int .u64 0, .int .u64 0, .slice none 0 0, .slice none 0 0, .slice none 0 0] 66)
    have HS3 : Hid (SepW W (w2.alloc (.cells #[.int .i64 many, .int .i64 0, .int .u64 0, .int .u64 0, .int .u64 0, .slice none 0 0, .slice none 0 0, .slice none 0 0] 66)) [obBlk w2.heap.size (.cells #[.int .i64 many, .int .i64 0, .int .u64 0, .int .u64 0, .int .u64 0, .slice none 0 0, .slice none 0 0, .slice none 0 0] 66), obLea (.pointer (some ⟨b0, 0, none⟩)) D0 0 (newLS many), obSt (fun _ => False) (newR many) (.slice none 0 0) (.slice none 0 0) (.slice none 0 0)]) := Lib.hid ⟨hs3.sep.perm ((List.Perm.swap _ _ _).cons _), hs3.below⟩
    clear hs2 hs3 HB1
    go_wp2_with fail
    generalize w2.heap.size = WB at *
    go_loopw [9] (fun i wr => ∃ (k N : Nat) (A : LS) (R : RL) (D S : Nat → Prop) (qo1 : Option Addr) (qn1 qc1 : Nat) (qo2 : Option Addr) (qn2 qc2 : Nat) (qo3 : Option Addr) (qn3 qc3 : Nat), k ≤ L0.length ∧ k ≤ 40 ∧ i = .int .i64 k ∧ LInv many k N A R ∧ SepW W wr [obBlk WB (.cells #[.int .i64 R.many, .int .i64 R.stage, .int .u64 R.ballot, .int .u64 R.first, .int .u64 R.next, .slice qo1 qn1 qc1, .slice qo2 qn2 qc2, .slice qo3 qn3 qc3] 66), obLea (.pointer (some ⟨b0, 0, none⟩)) D N A, obSt S R (.slice qo1 qn1 qc1) (.slice qo2 qn2 qc2) (.slice qo3 qn3 qc3)]) (fun i _ => 40 - (intOf i).toNat)
    case atStart => exact ⟨0, 0, newLS many, newR many, D0, _, none, 0, 0, none, 0, 0, none, 0, 0, by omega, by omega, rfl, LInv.new, HS3.out⟩
    case round =>
      clear HS3
      obtain ⟨k, N, A, R, D, S, qo1, qn1, qc1, qo2, qn2, qc2, qo3, qn3, qc3, hk, hk40, rfl, hinv, hsep⟩ := hrel
      have HSk := Lib.hid hsep
      have HI := Lib.hid hinv
      clear hsep hinv
      by_cases hlt : k < L0.length ∧ k < 40
      · obtain ⟨hlt, hlt40⟩ := hlt
        have hki : (k : Int) < (L0.length : Int) := by omega
        have hki40 : (k : Int) < 40 := by omega
        obtain ⟨x, hx⟩ : ∃ x, L0[k]? = some x := ⟨_, List.getElem?_eq_getElem hlt⟩
        have hok := HW.out x (List.mem_of_getElem? hx)
        obtain ⟨_, _, he, _, _, hxx⟩ := id H0.out
        cases he
        obtain ⟨a, rfl, sv, vv, q0, q1, q2, q3, q4, q5, q6, hsl, hvl⟩ := hxx k x hx
        obtain ⟨kd, nd, b, sl, lo, xs, vs⟩ := x
        obtain ⟨hkd, hnd, hub, hus, hul, hu8, hvw⟩ := hok
        simp only at q0 q1 q2 q3 q4 hsl hvl hkd hnd hub hus hul hu8 hvw
        have q0 := (HSk.out.below.cell (World.block_lt_of_cell? W _ q0)).trans q0
        have q1 := (HSk.out.below.cell (World.block_lt_of_cell? W _ q1)).trans q1
        have q2 := (HSk.out.below.cell (World.block_lt_of_cell? W _ q2)).trans q2
        have q3 := (HSk.out.below.cell (World.block_lt_of_cell? W _ q3)).trans q3
        have q4 := (HSk.out.below.cell (World.block_lt_of_cell? W _ q4)).trans q4
        have q5 := (HSk.out.below.cell (World.block_lt_of_cell? W _ q5)).trans q5
        have q6 := (HSk.out.below.cell (World.block_lt_of_cell? W _ q6)).trans q6
        obtain ⟨so, sc, rfl, hsc1, hsc2⟩ := hsl.form
        obtain ⟨vo, vc, rfl, hvc1, hvc2, _⟩ := id hvl
        simp only [List.length_map] at hsl q5 hsc1
        have HXs := Lib.hid hsl
        have HVs := Lib.hid hvl
        have HU8 := Lib.hid hu8
        have HUb := Lib.hid hub
        have HUs := Lib.hid hus
        have HUl := Lib.hid hul
        have HVw := Lib.hid hvw
        obtain ⟨q, hqd⟩ : ∃ q, bits BinOp.and IntKind.i64 kd 7 = q := ⟨_, rfl⟩
        have HSx : Hid (SepW W (wr.alloc (.cells #[.int .i64 kd, .int .i64 nd, .int .u64 b, .int .u64 sl, .int .u64 lo, .slice so xs.length sc, .slice vo vs.length vc] 68)) [obBlk wr.heap.size (.cells #[.int .i64 kd, .int .i64 nd, .int .u64 b, .int .u64 sl, .int .u64 lo, .slice so xs.length sc, .slice vo vs.length vc] 68), obBlk WB (.cells #[.int .i64 R.many, .int .i64 R.stage, .int .u64 R.ballot, .int .u64 R.first, .int .u64 R.next, .slice qo1 qn1 qc1, .slice qo2 qn2 qc2, .slice qo3 qn3 qc3] 66), obLea (.pointer (some ⟨b0, 0, none⟩)) D N A, obSt S R (.slice qo1 qn1 qc1) (.slice qo2 qn2 qc2) (.slice qo3 qn3 qc3)]) := Lib.hid (HSk.out.newBlk #[.int .i64 kd, .int .i64 nd, .int .u64 b, .int .u64 sl, .int .u64 lo, .slice so xs.length sc, .slice vo vs.length vc] 68)
        clear hx hxx hub hus hul hu8 hsl hvl hvw hkd hnd
        obtain ⟨x0, x1, x2, x3, x4, x5, x6⟩ := cells7 (HSx.out.get 0 rfl : (wr.alloc (.cells #[.int .i64 kd, .int .i64 nd, .int .u64 b, .int .u64 sl, .int .u64 lo, .slice so xs.length sc, .slice vo vs.length vc] 68)).heap[wr.heap.size]? = some (.cells #[.int .i64 kd, .int .i64 nd, .int .u64 b, .int .u64 sl, .int .u64 lo, .slice so xs.length sc, .slice vo vs.length vc] 68))
        go_wp2_with fail
        refine (lfew_any (x := ⟨kd, nd, b, sl, lo, xs, vs⟩) (VtL.below HSx.out.below (Nat.le_refl _) HVs.out)).mono ?_
        rintro e w3 ⟨⟨bf, rfl, hfew⟩, hb3⟩
        have HS1 := Lib.hid (HSx.out.step hb3)
        clear hb3 HSx x0 x1 x2 x3 x4 x5 x6
        generalize wr.heap.size = XB at *
        cases bf with
        | false =>
          go_wp2_with fail
          go_ret
          exact ⟨rfl, HS1.out.below⟩
        | true =>
          obtain ⟨hf8, hf40, hfv⟩ := hfew rfl
          simp only at hf8 hf40 hfv
          have HFv := Lib.hid hfv
          clear hfew hfv
          obtain ⟨x0, x1, x2, x3, x4, x5, x6⟩ := cells7 (HS1.out.get 0 rfl : w3.heap[XB]? = some (.cells #[.int .i64 kd, .int .i64 nd, .int .u64 b, .int .u64 sl, .int .u64 lo, .slice so xs.length sc, .slice vo vs.length vc] 68))
          have hNk := HI.out.n
          go_upto_block 2 with fail
          go_cut [7, 12] (fun s7 s12 wx => ∃ (er : Int) (N' : Nat) (A' : LS) (R' : RL) (D' S' : Nat → Prop) (q'o1 : Option Addr) (q'n1 q'c1 : Nat) (q'o2 : Option Addr) (q'n2 q'c2 : Nat) (q'o3 : Option Addr) (q'n3 q'c3 : Nat), s7 = .int .i64 er ∧ s12 = .int .i64 er ∧ LInv many (k + 1) N' A' R' ∧ SepW W wx [obBlk XB (.cells #[.int .i64 kd, .int .i64 nd, .int .u64 b, .int .u64 sl, .int .u64 lo, .slice so xs.length sc, .slice vo vs.length vc] 68), obBlk WB (.cells #[.int .i64 R'.many, .int .i64 R'.stage, .int .u64 R'.ballot, .int .u64 R'.first, .int .u64 R'.next, .slice q'o1 q'n1 q'c1, .slice q'o2 q'n2 q'c2, .slice q'o3 q'n3 q'c3] 66), obLea (.pointer (some ⟨b0, 0, none⟩)) D' N' A', obSt S' R' (.slice q'o1 q'n1 q'c1) (.slice q'o2 q'n2 q'c2) (.slice q'o3 q'n3 q'c3)])
          case first =>
            have hqs : (q = 0 ∨ q = 1) ∨ (q = 2 ∨ q = 3) ∨ q = 4 ∨ (q = 5 ∨ q = 6) ∨ (q ≠ 0 ∧ q ≠ 1 ∧ q ≠ 2 ∧ q ≠ 3 ∧ q ≠ 4 ∧ q ≠ 5 ∧ q ≠ 6) := by omega
            rcases hqs with hqs | hqs | hqs | hqs | ⟨p0, p1, p2, p3, p4, p5, p6⟩
            · go_upto_if 90 with fail
              go_cut [90] (fun s wx => s = .bool true ∧ w3 = wx)
              case first =>
                rcases hqs with hqs | hqs
                · have hq0 : (q == 0) = true := by rw [beq_iff_eq]; omega
                  go_wp2_with fail
                  go_meet
                  exact ⟨by rw [hq0], rfl⟩
                · have hq0 : (q == 0) = false := by rw [beq_eq_false_iff_ne]; omega
                  have hq1 : (q == 1) = true := by rw [beq_iff_eq]; omega
                  go_wp2_with fail
                  go_meet
                  exact ⟨rfl, rfl⟩
              case rest =>
                obtain ⟨rfl, rfl⟩ := hcut
                clear hqs
                as_aux_lemma =>
                  go_wp2_with fail
                  refine (HS1.out.lcBegin 2 rfl HUb.out HUs.out).mono ?_
                  rintro e w4 ⟨er, A', N', D', hbg, rfl, hs2⟩
                  have HS2 : Hid (SepW W w4 [obBlk XB (.cells #[.int .i64 kd, .int .i64 nd, .int .u64 b, .int .u64 sl, .int .u64 lo, .slice so xs.length sc, .slice vo vs.length vc] 68), obBlk WB (.cells #[.int .i64 R.many, .int .i64 R.stage, .int .u64 R.ballot, .int .u64 R.first, .int .u64 R.next, .slice qo1 qn1 qc1, .slice qo2 qn2 qc2, .slice qo3 qn3 qc3] 66), obLea (.pointer (some ⟨b0, 0, none⟩)) D' N' A', obSt S R (.slice qo1 qn1 qc1) (.slice qo2 qn2 qc2) (.slice qo3 qn3 qc3)]) := Lib.hid hs2
                  clear hs2
                  clear x0 x1 x2 x3 x4 x5 x6
                  obtain ⟨x0, x1, x2, x3, x4, x5, x6⟩ := cells7 (HS2.out.get 0 rfl : w4.heap[XB]? = some (.cells #[.int .i64 kd, .int .i64 nd, .int .u64 b, .int .u64 sl, .int .u64 lo, .slice so xs.length sc, .slice vo vs.length vc] 68))
                  obtain ⟨y0, y1, y2, y3, y4, y5, y6, y7⟩ := cells8 (HS2.out.get 1 rfl : w4.heap[WB]? = some (.cells #[.int .i64 R.many, .int .i64 R.stage, .int .u64 R.ballot, .int .u64 R.first, .int .u64 R.next, .slice qo1 qn1 qc1, .slice qo2 qn2 qc2, .slice qo3 qn3 qc3] 66))
                  have yz : ∀ j, w4.frozen? ⟨WB, j, none⟩ = false := fun j => by have hh : w4.heap[WB]? = _ := HS2.out.get 1 rfl; simp [World.frozen?, hh]
                  have hc : Calls Try.prog 32 #[.agg #[.int .i64 R.many, .int .i64 R.stage, .int .u64 R.ballot, .int .u64 R.first, .int .u64 R.next, .slice qo1 qn1 qc1, .slice qo2 qn2 qc2, .slice qo3 qn3 qc3], .int .u64 b, .int .u64 sl] w4 _ := HS2.out.drBegin 3 rfl b sl
                  have HC := Lib.hid hc
                  clear hc
                  go_wp2_with fail
                  refine HC.out.mono ?_
                  rintro e w5 ⟨er', R', S', ⟨q'o1, q'n1, q'c1, q'o2, q'n2, q'c2, q'o3, q'n3, q'c3⟩, hbr, rfl, hs3⟩
                  obtain ⟨rfl, hinv'⟩ := HI.out.bg HUs.out hbg hbr
                  have HI' := Lib.hid hinv'
                  have HS3 : Hid (SepW W w5 [obBlk XB (.cells #[.int .i64 kd, .int .i64 nd, .int .u64 b, .int .u64 sl, .int .u64 lo, .slice so xs.length sc, .slice vo vs.length vc] 68), obBlk WB (.cells #[.int .i64 R.many, .int .i64 R.stage, .int .u64 R.ballot, .int .u64 R.first, .int .u64 R.next, .slice qo1 qn1 qc1, .slice qo2 qn2 qc2, .slice qo3 qn3 qc3] 66), obLea (.pointer (some ⟨b0, 0, none⟩)) D' N' A', obSt S' R' (.slice q'o1 q'n1 q'c1) (.slice q'o2 q'n2 q'c2) (.slice q'o3 q'n3 q'c3)]) := Lib.hid hs3
                  simp only [rlV, Sx.p, Sx.k, Sx.o]
                  clear hs3 hbg hbr hinv' HC
                  clear x0 x1 x2 x3 x4 x5 x6
                  clear y0 y1 y2 y3 y4 y5 y6 y7 yz
                  go_wp2_with (first | (refine wpList_store_rowTo rfl 66 (.tmp 8) (.tmp 106) rfl rfl WB #[.int .i64 R'.many, .int .i64 R'.stage, .int .u64 R'.ballot, .int .u64 R'.first, .int .u64 R'.next, .slice q'o1 q'n1 q'c1, .slice q'o2 q'n2 q'c2, .slice q'o3 q'n3 q'c3] rfl rfl 66 _ (HS3.out.get 1 rfl : w5.heap[WB]? = some (.cells #[.int .i64 R.many, .int .i64 R.stage, .int .u64 R.ballot, .int .u64 R.first, .int .u64 R.next, .slice qo1 qn1 qc1, .slice qo2 qn2 qc2, .slice qo3 qn3 qc3] 66)) (by kernel_rfl) rfl (by kernel_rfl) ?_) | fail)
                  have hs4 := HS3.out.blkRow 1 #[.int .i64 R'.many, .int .i64 R'.stage, .int .u64 R'.ballot, .int .u64 R'.first, .int .u64 R'.next, .slice q'o1 q'n1 q'c1, .slice q'o2 q'n2 q'c2, .slice q'o3 q'n3 q'c3] rfl
                  generalize w5.setRow WB #[.int .i64 R'.many, .int .i64 R'.stage, .int .u64 R'.ballot, .int .u64 R'.first, .int .u64 R'.next, .slice q'o1 q'n1 q'c1, .slice q'o2 q'n2 q'c2, .slice q'o3 q'n3 q'c3] = W4 at *
                  have HS4 : Hid (SepW W W4 [obBlk XB (.cells #[.int .i64 kd, .int .i64 nd, .int .u64 b, .int .u64 sl, .int .u64 lo, .slice so xs.length sc, .slice vo vs.length vc] 68), obBlk WB (.cells #[.int .i64 R'.many, .int .i64 R'.stage, .int .u64 R'.ballot, .int .u64 R'.first, .int .u64 R'.next, .slice q'o1 q'n1 q'c1, .slice q'o2 q'n2 q'c2, .slice q'o3 q'n3 q'c3] 66), obLea (.pointer (some ⟨b0, 0, none⟩)) D' N' A', obSt S' R' (.slice q'o1 q'n1 q'c1) (.slice q'o2 q'n2 q'c2) (.slice q'o3 q'n3 q'c3)]) := Lib.hid (hs4)
                  clear hs4
                  go_meet
                  exact ⟨er, N', A', R', D', S', q'o1, q'n1, q'c1, q'o2, q'n2, q'c2, q'o3, q'n3, q'c3, rfl, rfl, HI'.out, HS4.out⟩
            · have hq0 : (q == 0) = false := by rw [beq_eq_false_iff_ne]; omega
              have hq1 : (q == 1) = false := by rw [beq_eq_false_iff_ne]; omega
              go_upto_if 108 with fail
              go_cut [108] (fun s wx => s = .bool true ∧ w3 = wx)
              case first =>
                rcases hqs with hqs | hqs
                · have hq2 : (q == 2) = true := by rw [beq_iff_eq]; omega
                  go_wp2_with fail
                  go_meet
                  exact ⟨by rw [hq2], rfl⟩
                · have hq2 : (q == 2) = false := by rw [beq_eq_false_iff_ne]; omega
                  have hq3 : (q == 3) = true := by rw [beq_iff_eq]; omega
                  go_wp2_with fail
                  go_meet
                  exact ⟨rfl, rfl⟩
              case rest =>
                obtain ⟨rfl, rfl⟩ := hcut
                clear hqs
                as_aux_lemma =>
                  have hvo : VtsOk vs := fun v hv => ⟨(HVw.out v hv).1, (HVw.out v hv).2.1, (HVw.out v hv).2.2, by have := HFv.out v hv; omega⟩
                  have HVo := Lib.hid hvo
                  clear hvo
                  go_wp2_with fail
                  refine (HS1.out.lcProm 2 rfl HUl.out HVs.out HVo.out (by omega)).mono ?_
                  rintro e w4 ⟨out, is, A', N', D', po, pc, us, hpm, hN', rfl, hs2⟩
                  have HS2 : Hid (SepW W w4 [obVts (.slice po out.length pc) 39 us out, obBlk XB (.cells #[.int .i64 kd, .int .i64 nd, .int .u64 b, .int .u64 sl, .int .u64 lo, .slice so xs.length sc, .slice vo vs.length vc] 68), obBlk WB (.cells #[.int .i64 R.many, .int .i64 R.stage, .int .u64 R.ballot, .int .u64 R.first, .int .u64 R.next, .slice qo1 qn1 qc1, .slice qo2 qn2 qc2, .slice qo3 qn3 qc3] 66), obLea (.pointer (some ⟨b0, 0, none⟩)) D' N' A', obSt S R (.slice qo1 qn1 qc1) (.slice qo2 qn2 qc2) (.slice qo3 qn3 qc3)]) := Lib.hid hs2
                  have HPm := Lib.hid hpm
                  have hmR : 1 ≤ R.many ∧ R.many ≤ 32 := by have h1 := HI.out.rel.many; have h2 := HI.out.many; omega
                  have hOk := HI.out.prom
                  have hKk := HI.out.kn
                  clear hs2 hpm
                  clear x0 x1 x2 x3 x4 x5 x6
                  go_upto_region 27 with fail
                  go_cut [15, 16, 17] (fun s15 s16 s17 wx => ∃ (RB : Nat) (R' : RL) (S' : Nat → Prop) (q'o1 : Option Addr) (q'n1 q'c1 : Nat) (q'o2 : Option Addr) (q'n2 q'c2 : Nat) (q'o3 : Option Addr) (q'n3 q'c3 : Nat) (uo : Option Addr) (uc : Nat), s15 = .pointer (some ⟨RB, 0, none⟩) ∧ s16 = .slice uo out.length uc ∧ s17 = .bool is ∧ out.length ≤ 1000000 ∧ LInv many (k + 1) N' A' R' ∧ SepW W wx [obBlk RB (.cells #[.int .i64 R'.many, .int .i64 R'.stage, .int .u64 R'.ballot, .int .u64 R'.first, .int .u64 R'.next, .slice q'o1 q'n1 q'c1, .slice q'o2 q'n2 q'c2, .slice q'o3 q'n3 q'c3] 66), obVts (.slice po out.length pc) 39 us out, obBlk XB (.cells #[.int .i64 kd, .int .i64 nd, .int .u64 b, .int .u64 sl, .int .u64 lo, .slice so xs.length sc, .slice vo vs.length vc] 68), obBlk WB (.cells #[.int .i64 R.many, .int .i64 R.stage, .int .u64 R.ballot, .int .u64 R.first, .int .u64 R.next, .slice qo1 qn1 qc1, .slice qo2 qn2 qc2, .slice qo3 qn3 qc3] 66), obLea (.pointer (some ⟨b0, 0, none⟩)) D' N' A', obSo S' R' (.slice q'o1 q'n1 q'c1) (.slice q'o2 q'n2 q'c2) (.slice q'o3 q'n3 q'c3) (.slice uo out.length uc) out])
                  case first =>
                    obtain ⟨x0, x1, x2, x3, x4, x5, x6⟩ := cells7 (HS2.out.get 1 rfl : w4.heap[XB]? = some (.cells #[.int .i64 kd, .int .i64 nd, .int .u64 b, .int .u64 sl, .int .u64 lo, .slice so xs.length sc, .slice vo vs.length vc] 68))
                    obtain ⟨y0, y1, y2, y3, y4, y5, y6, y7⟩ := cells8 (HS2.out.get 2 rfl : w4.heap[WB]? = some (.cells #[.int .i64 R.many, .int .i64 R.stage, .int .u64 R.ballot, .int .u64 R.first, .int .u64 R.next, .slice qo1 qn1 qc1, .slice qo2 qn2 qc2, .slice qo3 qn3 qc3] 66))
                    have yz : ∀ j, w4.frozen? ⟨WB, j, none⟩ = false := fun j => by have hh : w4.heap[WB]? = _ := HS2.out.get 2 rfl; simp [World.frozen?, hh]
                    have HS2d := Lib.hid (HS2.out.step (Below.refl w4.heap.size w4).drew)
                    have hS2 : (fun w' => w'.cell? ⟨WB, 0, none⟩ = some (.int .i64 R.many) ∧ w'.cell? ⟨WB, 1, none⟩ = some (.int .i64 R.stage) ∧ w'.cell? ⟨WB, 2, none⟩ = some (.int .u64 R.ballot) ∧ w'.cell? ⟨WB, 3, none⟩ = some (.int .u64 R.first) ∧ w'.cell? ⟨WB, 4, none⟩ = some (.int .u64 R.next) ∧ w'.cell? ⟨WB, 5, none⟩ = some (.slice qo1 qn1 qc1) ∧ w'.cell? ⟨WB, 6, none⟩ = some (.slice qo2 qn2 qc2) ∧ w'.cell? ⟨WB, 7, none⟩ = some (.slice qo3 qn3 qc3) ∧ w'.cell? ⟨XB, 1, none⟩ = some (.int .i64 nd) ∧ w'.cell? ⟨XB, 2, none⟩ = some (.int .u64 b) ∧ w'.cell? ⟨XB, 4, none⟩ = some (.int .u64 lo) ∧ w'.cell? ⟨XB, 6, none⟩ = some (.slice vo vs.length vc)) (w4.drew) := by
                      have hT := HS2d.out
                      obtain ⟨x0, x1, x2, x3, x4, x5, x6⟩ := cells7 (hT.get 1 rfl : (w4.drew).heap[XB]? = some (.cells #[.int .i64 kd, .int .i64 nd, .int .u64 b, .int .u64 sl, .int .u64 lo, .slice so xs.length sc, .slice vo vs.length vc] 68))
                      obtain ⟨y0, y1, y2, y3, y4, y5, y6, y7⟩ := cells8 (hT.get 2 rfl : (w4.drew).heap[WB]? = some (.cells #[.int .i64 R.many, .int .i64 R.stage, .int .u64 R.ballot, .int .u64 R.first, .int .u64 R.next, .slice qo1 qn1 qc1, .slice qo2 qn2 qc2, .slice qo3 qn3 qc3] 66))
                      exact ⟨y0, y1, y2, y3, y4, y5, y6, y7, x1, x2, x4, x6⟩
                    have HS2z := Lib.hid ((HS2.out.newBlk #[.int .i64 0, .int .i64 0, .int .u64 0, .int .u64 0, .int .u64 0, .slice none 0 0, .slice none 0 0, .slice none 0 0] 66).step (Below.refl _ _).drew)
                    have hS2z : (fun w' => w'.cell? ⟨WB, 0, none⟩ = some (.int .i64 R.many) ∧ w'.cell? ⟨WB, 1, none⟩ = some (.int .i64 R.stage) ∧ w'.cell? ⟨WB, 2, none⟩ = some (.int .u64 R.ballot) ∧ w'.cell? ⟨WB, 3, none⟩ = some (.int .u64 R.first) ∧ w'.cell? ⟨WB, 4, none⟩ = some (.int .u64 R.next) ∧ w'.cell? ⟨WB, 5, none⟩ = some (.slice qo1 qn1 qc1) ∧ w'.cell? ⟨WB, 6, none⟩ = some (.slice qo2 qn2 qc2) ∧ w'.cell? ⟨WB, 7, none⟩ = some (.slice qo3 qn3 qc3) ∧ w'.cell? ⟨XB, 1, none⟩ = some (.int .i64 nd) ∧ w'.cell? ⟨XB, 2, none⟩ = some (.int .u64 b) ∧ w'.cell? ⟨XB, 4, none⟩ = some (.int .u64 lo) ∧ w'.cell? ⟨XB, 6, none⟩ = some (.slice vo vs.length vc)) ((w4.alloc (.cells #[.int .i64 0, .int .i64 0, .int .u64 0, .int .u64 0, .int .u64 0, .slice none 0 0, .slice none 0 0, .slice none 0 0] 66)).drew) := by
                      have hT := HS2z.out
                      obtain ⟨x0, x1, x2, x3, x4, x5, x6⟩ := cells7 (hT.get 2 rfl : ((w4.alloc (.cells #[.int .i64 0, .int .i64 0, .int .u64 0, .int .u64 0, .int .u64 0, .slice none 0 0, .slice none 0 0, .slice none 0 0] 66)).drew).heap[XB]? = some (.cells #[.int .i64 kd, .int .i64 nd, .int .u64 b, .int .u64 sl, .int .u64 lo, .slice so xs.length sc, .slice vo vs.length vc] 68))
                      obtain ⟨y0, y1, y2, y3, y4, y5, y6, y7⟩ := cells8 (hT.get 3 rfl : ((w4.alloc (.cells #[.int .i64 0, .int .i64 0, .int .u64 0, .int .u64 0, .int .u64 0, .slice none 0 0, .slice none 0 0, .slice none 0 0] 66)).drew).heap[WB]? = some (.cells #[.int .i64 R.many, .int .i64 R.stage, .int .u64 R.ballot, .int .u64 R.first, .int .u64 R.next, .slice qo1 qn1 qc1, .slice qo2 qn2 qc2, .slice qo3 qn3 qc3] 66))
                      exact ⟨y0, y1, y2, y3, y4, y5, y6, y7, x1, x2, x4, x6⟩
                    go_wp2_with fail
                    have hMk : RowMark 66 := ⟨trivial⟩
                    go_region_held3 (fun w' => w'.cell? ⟨WB, 0, none⟩ = some (.int .i64 R.many) ∧ w'.cell? ⟨WB, 1, none⟩ = some (.int .i64 R.stage) ∧ w'.cell? ⟨WB, 2, none⟩ = some (.int .u64 R.ballot) ∧ w'.cell? ⟨WB, 3, none⟩ = some (.int .u64 R.first) ∧ w'.cell? ⟨WB, 4, none⟩ = some (.int .u64 R.next) ∧ w'.cell? ⟨WB, 5, none⟩ = some (.slice qo1 qn1 qc1) ∧ w'.cell? ⟨WB, 6, none⟩ = some (.slice qo2 qn2 qc2) ∧ w'.cell? ⟨WB, 7, none⟩ = some (.slice qo3 qn3 qc3) ∧ w'.cell? ⟨XB, 1, none⟩ = some (.int .i64 nd) ∧ w'.cell? ⟨XB, 2, none⟩ = some (.int .u64 b) ∧ w'.cell? ⟨XB, 4, none⟩ = some (.int .u64 lo) ∧ w'.cell? ⟨XB, 6, none⟩ = some (.slice vo vs.length vc)) (first | with_reducible exact hS7 | with_reducible exact hS7b | with_reducible exact hS6 | with_reducible exact hS5z | with_reducible exact hS5 | with_reducible exact hS2z | with_reducible exact hS2)
                     (first
                      | (go_at_call 35; (with_reducible refine (HS2d.out.lvotesArg HVs.out (by omega)).mono ?_); rintro e w5 ⟨ro, rc, rfl, hs5⟩
                         have HS5 : Hid (SepW W w5 [obRef (.slice ro vs.length rc) vs, obVts (.slice po out.length pc) 39 us out, obBlk XB (.cells #[.int .i64 kd, .int .i64 nd, .int .u64 b, .int .u64 sl, .int .u64 lo, .slice so xs.length sc, .slice vo vs.length vc] 68), obBlk WB (.cells #[.int .i64 R.many, .int .i64 R.stage, .int .u64 R.ballot, .int .u64 R.first, .int .u64 R.next, .slice qo1 qn1 qc1, .slice qo2 qn2 qc2, .slice qo3 qn3 qc3] 66), obLea (.pointer (some ⟨b0, 0, none⟩)) D' N' A', obSt S R (.slice qo1 qn1 qc1) (.slice qo2 qn2 qc2) (.slice qo3 qn3 qc3)]) := Lib.hid hs5
                         have hS5 : (fun w' => w'.cell? ⟨WB, 0, none⟩ = some (.int .i64 R.many) ∧ w'.cell? ⟨WB, 1, none⟩ = some (.int .i64 R.stage) ∧ w'.cell? ⟨WB, 2, none⟩ = some (.int .u64 R.ballot) ∧ w'.cell? ⟨WB, 3, none⟩ = some (.int .u64 R.first) ∧ w'.cell? ⟨WB, 4, none⟩ = some (.int .u64 R.next) ∧ w'.cell? ⟨WB, 5, none⟩ = some (.slice qo1 qn1 qc1) ∧ w'.cell? ⟨WB, 6, none⟩ = some (.slice qo2 qn2 qc2) ∧ w'.cell? ⟨WB, 7, none⟩ = some (.slice qo3 qn3 qc3) ∧ w'.cell? ⟨XB, 1, none⟩ = some (.int .i64 nd) ∧ w'.cell? ⟨XB, 2, none⟩ = some (.int .u64 b) ∧ w'.cell? ⟨XB, 4, none⟩ = some (.int .u64 lo) ∧ w'.cell? ⟨XB, 6, none⟩ = some (.slice vo vs.length vc)) w5 := by
                           obtain ⟨x0, x1, x2, x3, x4, x5, x6⟩ := cells7 (HS5.out.get 2 rfl : w5.heap[XB]? = some (.cells #[.int .i64 kd, .int .i64 nd, .int .u64 b, .int .u64 sl, .int .u64 lo, .slice so xs.length sc, .slice vo vs.length vc] 68))
                           obtain ⟨y0, y1, y2, y3, y4, y5, y6, y7⟩ := cells8 (HS5.out.get 3 rfl : w5.heap[WB]? = some (.cells #[.int .i64 R.many, .int .i64 R.stage, .int .u64 R.ballot, .int .u64 R.first, .int .u64 R.next, .slice qo1 qn1 qc1, .slice qo2 qn2 qc2, .slice qo3 qn3 qc3] 66))
                           exact ⟨y0, y1, y2, y3, y4, y5, y6, y7, x1, x2, x4, x6⟩
                         have hc : Calls Try.prog 34 #[.agg #[.int .i64 R.many, .int .i64 R.stage, .int .u64 R.ballot, .int .u64 R.first, .int .u64 R.next, .slice qo1 qn1 qc1, .slice qo2 qn2 qc2, .slice qo3 qn3 qc3], .int .i64 nd, .int .u64 b, .int .u64 lo, .slice ro vs.length rc] (w5.alloc (.cells #[.int .i64 0, .int .i64 0, .int .u64 0, .int .u64 0, .int .u64 0, .slice none 0 0, .slice none 0 0, .slice none 0 0] 66)) _ := (HS5.out.newBlk #[.int .i64 0, .int .i64 0, .int .u64 0, .int .u64 0, .int .u64 0, .slice none 0 0, .slice none 0 0, .slice none 0 0] 66).drProm 6 rfl 1 rfl nd b lo (by omega) (by omega) (by omega) hmR ⟨HI.out.uf, HUl.out, HI.out.uk, fun v hv => (HVw.out v hv).1⟩
                         have HC := Lib.hid hc
                         clear hc
                         have hc2 : Calls Try.prog 34 #[.agg #[.int .i64 R.many, .int .i64 R.stage, .int .u64 R.ballot, .int .u64 R.first, .int .u64 R.next, .slice qo1 qn1 qc1, .slice qo2 qn2 qc2, .slice qo3 qn3 qc3], .int .i64 nd, .int .u64 b, .int .u64 lo, .slice ro vs.length rc] w5 _ := HS5.out.drProm 5 rfl 0 rfl nd b lo (by omega) (by omega) (by omega) hmR ⟨HI.out.uf, HUl.out, HI.out.uk, fun v hv => (HVw.out v hv).1⟩
                         have HC2 := Lib.hid hc2
                         clear hc2
                         have hS5z : (fun w' => w'.cell? ⟨WB, 0, none⟩ = some (.int .i64 R.many) ∧ w'.cell? ⟨WB, 1, none⟩ = some (.int .i64 R.stage) ∧ w'.cell? ⟨WB, 2, none⟩ = some (.int .u64 R.ballot) ∧ w'.cell? ⟨WB, 3, none⟩ = some (.int .u64 R.first) ∧ w'.cell? ⟨WB, 4, none⟩ = some (.int .u64 R.next) ∧ w'.cell? ⟨WB, 5, none⟩ = some (.slice qo1 qn1 qc1) ∧ w'.cell? ⟨WB, 6, none⟩ = some (.slice qo2 qn2 qc2) ∧ w'.cell? ⟨WB, 7, none⟩ = some (.slice qo3 qn3 qc3) ∧ w'.cell? ⟨XB, 1, none⟩ = some (.int .i64 nd) ∧ w'.cell? ⟨XB, 2, none⟩ = some (.int .u64 b) ∧ w'.cell? ⟨XB, 4, none⟩ = some (.int .u64 lo) ∧ w'.cell? ⟨XB, 6, none⟩ = some (.slice vo vs.length vc)) (w5.alloc (.cells #[.int .i64 0, .int .i64 0, .int .u64 0, .int .u64 0, .int .u64 0, .slice none 0 0, .slice none 0 0, .slice none 0 0] 66)) := by
                           have hT := HS5.out.newBlk #[.int .i64 0, .int .i64 0, .int .u64 0, .int .u64 0, .int .u64 0, .slice none 0 0, .slice none 0 0, .slice none 0 0] 66
                           obtain ⟨x0, x1, x2, x3, x4, x5, x6⟩ := cells7 (hT.get 3 rfl : (w5.alloc (.cells #[.int .i64 0, .int .i64 0, .int .u64 0, .int .u64 0, .int .u64 0, .slice none 0 0, .slice none 0 0, .slice none 0 0] 66)).heap[XB]? = some (.cells #[.int .i64 kd, .int .i64 nd, .int .u64 b, .int .u64 sl, .int .u64 lo, .slice so xs.length sc, .slice vo vs.length vc] 68))
                           obtain ⟨y0, y1, y2, y3, y4, y5, y6, y7⟩ := cells8 (hT.get 4 rfl : (w5.alloc (.cells #[.int .i64 0, .int .i64 0, .int .u64 0, .int .u64 0, .int .u64 0, .slice none 0 0, .slice none 0 0, .slice none 0 0] 66)).heap[WB]? = some (.cells #[.int .i64 R.many, .int .i64 R.stage, .int .u64 R.ballot, .int .u64 R.first, .int .u64 R.next, .slice qo1 qn1 qc1, .slice qo2 qn2 qc2, .slice qo3 qn3 qc3] 66))
                           exact ⟨y0, y1, y2, y3, y4, y5, y6, y7, x1, x2, x4, x6⟩
                         clear hs5)
                      | (go_at_call 35; (with_reducible refine (HS2z.out.lvotesArg HVs.out (by omega)).mono ?_); rintro e w5 ⟨ro, rc, rfl, hs5⟩
                         have HS5 : Hid (SepW W w5 [obBlk w4.heap.size (.cells #[.int .i64 0, .int .i64 0, .int .u64 0, .int .u64 0, .int .u64 0, .slice none 0 0, .slice none 0 0, .slice none 0 0] 66), obRef (.slice ro vs.length rc) vs, obVts (.slice po out.length pc) 39 us out, obBlk XB (.cells #[.int .i64 kd, .int .i64 nd, .int .u64 b, .int .u64 sl, .int .u64 lo, .slice so xs.length sc, .slice vo vs.length vc] 68), obBlk WB (.cells #[.int .i64 R.many, .int .i64 R.stage, .int .u64 R.ballot, .int .u64 R.first, .int .u64 R.next, .slice qo1 qn1 qc1, .slice qo2 qn2 qc2, .slice qo3 qn3 qc3] 66), obLea (.pointer (some ⟨b0, 0, none⟩)) D' N' A', obSt S R (.slice qo1 qn1 qc1) (.slice qo2 qn2 qc2) (.slice qo3 qn3 qc3)]) := Lib.hid (hs5.perm (List.Perm.swap _ _ _))
                         have hS5 : (fun w' => w'.cell? ⟨WB, 0, none⟩ = some (.int .i64 R.many) ∧ w'.cell? ⟨WB, 1, none⟩ = some (.int .i64 R.stage) ∧ w'.cell? ⟨WB, 2, none⟩ = some (.int .u64 R.ballot) ∧ w'.cell? ⟨WB, 3, none⟩ = some (.int .u64 R.first) ∧ w'.cell? ⟨WB, 4, none⟩ = some (.int .u64 R.next) ∧ w'.cell? ⟨WB, 5, none⟩ = some (.slice qo1 qn1 qc1) ∧ w'.cell? ⟨WB, 6, none⟩ = some (.slice qo2 qn2 qc2) ∧ w'.cell? ⟨WB, 7, none⟩ = some (.slice qo3 qn3 qc3) ∧ w'.cell? ⟨XB, 1, none⟩ = some (.int .i64 nd) ∧ w'.cell? ⟨XB, 2, none⟩ = some (.int .u64 b) ∧ w'.cell? ⟨XB, 4, none⟩ = some (.int .u64 lo) ∧ w'.cell? ⟨XB, 6, none⟩ = some (.slice vo vs.length vc)) w5 := by
                           obtain ⟨x0, x1, x2, x3, x4, x5, x6⟩ := cells7 (HS5.out.get 3 rfl : w5.heap[XB]? = some (.cells #[.int .i64 kd, .int .i64 nd, .int .u64 b, .int .u64 sl, .int .u64 lo, .slice so xs.length sc, .slice vo vs.length vc] 68))
                           obtain ⟨y0, y1, y2, y3, y4, y5, y6, y7⟩ := cells8 (HS5.out.get 4 rfl : w5.heap[WB]? = some (.cells #[.int .i64 R.many, .int .i64 R.stage, .int .u64 R.ballot, .int .u64 R.first, .int .u64 R.next, .slice qo1 qn1 qc1, .slice qo2 qn2 qc2, .slice qo3 qn3 qc3] 66))
                           exact ⟨y0, y1, y2, y3, y4, y5, y6, y7, x1, x2, x4, x6⟩
                         have hc : Calls Try.prog 34 #[.agg #[.int .i64 R.many, .int .i64 R.stage, .int .u64 R.ballot, .int .u64 R.first, .int .u64 R.next, .slice qo1 qn1 qc1, .slice qo2 qn2 qc2, .slice qo3 qn3 qc3], .int .i64 nd, .int .u64 b, .int .u64 lo, .slice ro vs.length rc] w5 _ := HS5.out.drProm 6 rfl 1 rfl nd b lo (by omega) (by omega) (by omega) hmR ⟨HI.out.uf, HUl.out, HI.out.uk, fun v hv => (HVw.out v hv).1⟩
                         have HC := Lib.hid hc
                         clear hc
                         clear hs5)
                      | (go_at_call 34; (with_reducible refine HC.out.mono ?_); rintro e w6 ⟨out', is', R', S', ⟨q'o1, q'n1, q'c1, q'o2, q'n2, q'c2, q'o3, q'n3, q'c3⟩, uo, uc, hpr, rfl, hs6⟩
                         (obtain ⟨rfl, rfl, hol, hinv'⟩ := HI.out.pm hm2 hf8 HUl.out (fun v hv => (HVw.out v hv).1) hN' HPm.out hpr)
                         have HI' := Lib.hid hinv'
                         simp only [rlV, Sx.p, Sx.k, Sx.o]
                         have HS6 : Hid (SepW W w6 [obBlk w5.heap.size (.cells #[.int .i64 0, .int .i64 0, .int .u64 0, .int .u64 0, .int .u64 0, .slice none 0 0, .slice none 0 0, .slice none 0 0] 66), obRef (.slice ro vs.length rc) vs, obVts (.slice po out.length pc) 39 us out, obBlk XB (.cells #[.int .i64 kd, .int .i64 nd, .int .u64 b, .int .u64 sl, .int .u64 lo, .slice so xs.length sc, .slice vo vs.length vc] 68), obBlk WB (.cells #[.int .i64 R.many, .int .i64 R.stage, .int .u64 R.ballot, .int .u64 R.first, .int .u64 R.next, .slice qo1 qn1 qc1, .slice qo2 qn2 qc2, .slice qo3 qn3 qc3] 66), obLea (.pointer (some ⟨b0, 0, none⟩)) D' N' A', obSo S' R' (.slice q'o1 q'n1 q'c1) (.slice q'o2 q'n2 q'c2) (.slice q'o3 q'n3 q'c3) (.slice uo out.length uc) out]) := Lib.hid hs6
                         have hS6 : (fun w' => w'.cell? ⟨WB, 0, none⟩ = some (.int .i64 R.many) ∧ w'.cell? ⟨WB, 1, none⟩ = some (.int .i64 R.stage) ∧ w'.cell? ⟨WB, 2, none⟩ = some (.int .u64 R.ballot) ∧ w'.cell? ⟨WB, 3, none⟩ = some (.int .u64 R.first) ∧ w'.cell? ⟨WB, 4, none⟩ = some (.int .u64 R.next) ∧ w'.cell? ⟨WB, 5, none⟩ = some (.slice qo1 qn1 qc1) ∧ w'.cell? ⟨WB, 6, none⟩ = some (.slice qo2 qn2 qc2) ∧ w'.cell? ⟨WB, 7, none⟩ = some (.slice qo3 qn3 qc3) ∧ w'.cell? ⟨XB, 1, none⟩ = some (.int .i64 nd) ∧ w'.cell? ⟨XB, 2, none⟩ = some (.int .u64 b) ∧ w'.cell? ⟨XB, 4, none⟩ = some (.int .u64 lo) ∧ w'.cell? ⟨XB, 6, none⟩ = some (.slice vo vs.length vc)) w6 := by
                           obtain ⟨x0, x1, x2, x3, x4, x5, x6⟩ := cells7 (HS6.out.get 3 rfl : w6.heap[XB]? = some (.cells #[.int .i64 kd, .int .i64 nd, .int .u64 b, .int .u64 sl, .int .u64 lo, .slice so xs.length sc, .slice vo vs.length vc] 68))
                           obtain ⟨y0, y1, y2, y3, y4, y5, y6, y7⟩ := cells8 (HS6.out.get 4 rfl : w6.heap[WB]? = some (.cells #[.int .i64 R.many, .int .i64 R.stage, .int .u64 R.ballot, .int .u64 R.first, .int .u64 R.next, .slice qo1 qn1 qc1, .slice qo2 qn2 qc2, .slice qo3 qn3 qc3] 66))
                           exact ⟨y0, y1, y2, y3, y4, y5, y6, y7, x1, x2, x4, x6⟩
                         have hST := run_rowStoreB (P := Try.prog) 66 (w5.heap.size) #[.int .i64 R'.many, .int .i64 R'.stage, .int .u64 R'.ballot, .int .u64 R'.first, .int .u64 R'.next, .slice q'o1 q'n1 q'c1, .slice q'o2 q'n2 q'c2, .slice q'o3 q'n3 q'c3] 66 _ (HS6.out.get 0 rfl : w6.heap[w5.heap.size]? = some (.cells #[.int .i64 0, .int .i64 0, .int .u64 0, .int .u64 0, .int .u64 0, .slice none 0 0, .slice none 0 0, .slice none 0 0] 66)) (by kernel_rfl) rfl (by kernel_rfl)
                         have HS7 : Hid (SepW W (w6.setRow w5.heap.size #[.int .i64 R'.many, .int .i64 R'.stage, .int .u64 R'.ballot, .int .u64 R'.first, .int .u64 R'.next, .slice q'o1 q'n1 q'c1, .slice q'o2 q'n2 q'c2, .slice q'o3 q'n3 q'c3]) [obBlk w5.heap.size (.cells #[.int .i64 R'.many, .int .i64 R'.stage, .int .u64 R'.ballot, .int .u64 R'.first, .int .u64 R'.next, .slice q'o1 q'n1 q'c1, .slice q'o2 q'n2 q'c2, .slice q'o3 q'n3 q'c3] 66), obVts (.slice po out.length pc) 39 us out, obBlk XB (.cells #[.int .i64 kd, .int .i64 nd, .int .u64 b, .int .u64 sl, .int .u64 lo, .slice so xs.length sc, .slice vo vs.length vc] 68), obBlk WB (.cells #[.int .i64 R.many, .int .i64 R.stage, .int .u64 R.ballot, .int .u64 R.first, .int .u64 R.next, .slice qo1 qn1 qc1, .slice qo2 qn2 qc2, .slice qo3 qn3 qc3] 66), obLea (.pointer (some ⟨b0, 0, none⟩)) D' N' A', obSo S' R' (.slice q'o1 q'n1 q'c1) (.slice q'o2 q'n2 q'c2) (.slice q'o3 q'n3 q'c3) (.slice uo out.length uc) out]) := Lib.hid ((HS6.out.blkRow 0 #[.int .i64 R'.many, .int .i64 R'.stage, .int .u64 R'.ballot, .int .u64 R'.first, .int .u64 R'.next, .slice q'o1 q'n1 q'c1, .slice q'o2 q'n2 q'c2, .slice q'o3 q'n3 q'c3] rfl).sub (List.Sublist.cons_cons _ (List.sublist_cons_self _ _)))
                         have hS7 : (fun w' => w'.cell? ⟨WB, 0, none⟩ = some (.int .i64 R.many) ∧ w'.cell? ⟨WB, 1, none⟩ = some (.int .i64 R.stage) ∧ w'.cell? ⟨WB, 2, none⟩ = some (.int .u64 R.ballot) ∧ w'.cell? ⟨WB, 3, none⟩ = some (.int .u64 R.first) ∧ w'.cell? ⟨WB, 4, none⟩ = some (.int .u64 R.next) ∧ w'.cell? ⟨WB, 5, none⟩ = some (.slice qo1 qn1 qc1) ∧ w'.cell? ⟨WB, 6, none⟩ = some (.slice qo2 qn2 qc2) ∧ w'.cell? ⟨WB, 7, none⟩ = some (.slice qo3 qn3 qc3) ∧ w'.cell? ⟨XB, 1, none⟩ = some (.int .i64 nd) ∧ w'.cell? ⟨XB, 2, none⟩ = some (.int .u64 b) ∧ w'.cell? ⟨XB, 4, none⟩ = some (.int .u64 lo) ∧ w'.cell? ⟨XB, 6, none⟩ = some (.slice vo vs.length vc)) ((w6.setRow w5.heap.size #[.int .i64 R'.many, .int .i64 R'.stage, .int .u64 R'.ballot, .int .u64 R'.first, .int .u64 R'.next, .slice q'o1 q'n1 q'c1, .slice q'o2 q'n2 q'c2, .slice q'o3 q'n3 q'c3])) := by
                           have hT := HS7.out
                           obtain ⟨x0, x1, x2, x3, x4, x5, x6⟩ := cells7 (hT.get 2 rfl : ((w6.setRow w5.heap.size #[.int .i64 R'.many, .int .i64 R'.stage, .int .u64 R'.ballot, .int .u64 R'.first, .int .u64 R'.next, .slice q'o1 q'n1 q'c1, .slice q'o2 q'n2 q'c2, .slice q'o3 q'n3 q'c3])).heap[XB]? = some (.cells #[.int .i64 kd, .int .i64 nd, .int .u64 b, .int .u64 sl, .int .u64 lo, .slice so xs.length sc, .slice vo vs.length vc] 68))
                           obtain ⟨y0, y1, y2, y3, y4, y5, y6, y7⟩ := cells8 (hT.get 3 rfl : ((w6.setRow w5.heap.size #[.int .i64 R'.many, .int .i64 R'.stage, .int .u64 R'.ballot, .int .u64 R'.first, .int .u64 R'.next, .slice q'o1 q'n1 q'c1, .slice q'o2 q'n2 q'c2, .slice q'o3 q'n3 q'c3])).heap[WB]? = some (.cells #[.int .i64 R.many, .int .i64 R.stage, .int .u64 R.ballot, .int .u64 R.first, .int .u64 R.next, .slice qo1 qn1 qc1, .slice qo2 qn2 qc2, .slice qo3 qn3 qc3] 66))
                           exact ⟨y0, y1, y2, y3, y4, y5, y6, y7, x1, x2, x4, x6⟩
                         clear hs6 hpr hinv')
                      | (go_at_call 34; (with_reducible refine HC.out.mono ?_); rintro e w6 ⟨out', is', R', S', ⟨q'o1, q'n1, q'c1, q'o2, q'n2, q'c2, q'o3, q'n3, q'c3⟩, uo, uc, hpr, rfl, hs6⟩
                         (obtain ⟨rfl, rfl, hol, hinv'⟩ := HI.out.pm hm2 hf8 HUl.out (fun v hv => (HVw.out v hv).1) hN' HPm.out hpr)
                         have HI' := Lib.hid hinv'
                         simp only [rlV, Sx.p, Sx.k, Sx.o]
                         have HS6 : Hid (SepW W w6 [obBlk w4.heap.size (.cells #[.int .i64 0, .int .i64 0, .int .u64 0, .int .u64 0, .int .u64 0, .slice none 0 0, .slice none 0 0, .slice none 0 0] 66), obRef (.slice ro vs.length rc) vs, obVts (.slice po out.length pc) 39 us out, obBlk XB (.cells #[.int .i64 kd, .int .i64 nd, .int .u64 b, .int .u64 sl, .int .u64 lo, .slice so xs.length sc, .slice vo vs.length vc] 68), obBlk WB (.cells #[.int .i64 R.many, .int .i64 R.stage, .int .u64 R.ballot, .int .u64 R.first, .int .u64 R.next, .slice qo1 qn1 qc1, .slice qo2 qn2 qc2, .slice qo3 qn3 qc3] 66), obLea (.pointer (some ⟨b0, 0, none⟩)) D' N' A', obSo S' R' (.slice q'o1 q'n1 q'c1) (.slice q'o2 q'n2 q'c2) (.slice q'o3 q'n3 q'c3) (.slice uo out.length uc) out]) := Lib.hid hs6
                         have hS6 : (fun w' => w'.cell? ⟨WB, 0, none⟩ = some (.int .i64 R.many) ∧ w'.cell? ⟨WB, 1, none⟩ = some (.int .i64 R.stage) ∧ w'.cell? ⟨WB, 2, none⟩ = some (.int .u64 R.ballot) ∧ w'.cell? ⟨WB, 3, none⟩ = some (.int .u64 R.first) ∧ w'.cell? ⟨WB, 4, none⟩ = some (.int .u64 R.next) ∧ w'.cell? ⟨WB, 5, none⟩ = some (.slice qo1 qn1 qc1) ∧ w'.cell? ⟨WB, 6, none⟩ = some (.slice qo2 qn2 qc2) ∧ w'.cell? ⟨WB, 7, none⟩ = some (.slice qo3 qn3 qc3) ∧ w'.cell? ⟨XB, 1, none⟩ = some (.int .i64 nd) ∧ w'.cell? ⟨XB, 2, none⟩ = some (.int .u64 b) ∧ w'.cell? ⟨XB, 4, none⟩ = some (.int .u64 lo) ∧ w'.cell? ⟨XB, 6, none⟩ = some (.slice vo vs.length vc)) w6 := by
                           obtain ⟨x0, x1, x2, x3, x4, x5, x6⟩ := cells7 (HS6.out.get 3 rfl : w6.heap[XB]? = some (.cells #[.int .i64 kd, .int .i64 nd, .int .u64 b, .int .u64 sl, .int .u64 lo, .slice so xs.length sc, .slice vo vs.length vc] 68))
                           obtain ⟨y0, y1, y2, y3, y4, y5, y6, y7⟩ := cells8 (HS6.out.get 4 rfl : w6.heap[WB]? = some (.cells #[.int .i64 R.many, .int .i64 R.stage, .int .u64 R.ballot, .int .u64 R.first, .int .u64 R.next, .slice qo1 qn1 qc1, .slice qo2 qn2 qc2, .slice qo3 qn3 qc3] 66))
                           exact ⟨y0, y1, y2, y3, y4, y5, y6, y7, x1, x2, x4, x6⟩
                         have hST := run_rowStoreB (P := Try.prog) 66 (w4.heap.size) #[.int .i64 R'.many, .int .i64 R'.stage, .int .u64 R'.ballot, .int .u64 R'.first, .int .u64 R'.next, .slice q'o1 q'n1 q'c1, .slice q'o2 q'n2 q'c2, .slice q'o3 q'n3 q'c3] 66 _ (HS6.out.get 0 rfl : w6.heap[w4.heap.size]? = some (.cells #[.int .i64 0, .int .i64 0, .int .u64 0, .int .u64 0, .int .u64 0, .slice none 0 0, .slice none 0 0, .slice none 0 0] 66)) (by kernel_rfl) rfl (by kernel_rfl)
                         have HS7 : Hid (SepW W (w6.setRow w4.heap.size #[.int .i64 R'.many, .int .i64 R'.stage, .int .u64 R'.ballot, .int .u64 R'.first, .int .u64 R'.next, .slice q'o1 q'n1 q'c1, .slice q'o2 q'n2 q'c2, .slice q'o3 q'n3 q'c3]) [obBlk w4.heap.size (.cells #[.int .i64 R'.many, .int .i64 R'.stage, .int .u64 R'.ballot, .int .u64 R'.first, .int .u64 R'.next, .slice q'o1 q'n1 q'c1, .slice q'o2 q'n2 q'c2, .slice q'o3 q'n3 q'c3] 66), obVts (.slice po out.length pc) 39 us out, obBlk XB (.cells #[.int .i64 kd, .int .i64 nd, .int .u64 b, .int .u64 sl, .int .u64 lo, .slice so xs.length sc, .slice vo vs.length vc] 68), obBlk WB (.cells #[.int .i64 R.many, .int .i64 R.stage, .int .u64 R.ballot, .int .u64 R.first, .int .u64 R.next, .slice qo1 qn1 qc1, .slice qo2 qn2 qc2, .slice qo3 qn3 qc3] 66), obLea (.pointer (some ⟨b0, 0, none⟩)) D' N' A', obSo S' R' (.slice q'o1 q'n1 q'c1) (.slice q'o2 q'n2 q'c2) (.slice q'o3 q'n3 q'c3) (.slice uo out.length uc) out]) := Lib.hid ((HS6.out.blkRow 0 #[.int .i64 R'.many, .int .i64 R'.stage, .int .u64 R'.ballot, .int .u64 R'.first, .int .u64 R'.next, .slice q'o1 q'n1 q'c1, .slice q'o2 q'n2 q'c2, .slice q'o3 q'n3 q'c3] rfl).sub (List.Sublist.cons_cons _ (List.sublist_cons_self _ _)))
                         have hS7 : (fun w' => w'.cell? ⟨WB, 0, none⟩ = some (.int .i64 R.many) ∧ w'.cell? ⟨WB, 1, none⟩ = some (.int .i64 R.stage) ∧ w'.cell? ⟨WB, 2, none⟩ = some (.int .u64 R.ballot) ∧ w'.cell? ⟨WB, 3, none⟩ = some (.int .u64 R.first) ∧ w'.cell? ⟨WB, 4, none⟩ = some (.int .u64 R.next) ∧ w'.cell? ⟨WB, 5, none⟩ = some (.slice qo1 qn1 qc1) ∧ w'.cell? ⟨WB, 6, none⟩ = some (.slice qo2 qn2 qc2) ∧ w'.cell? ⟨WB, 7, none⟩ = some (.slice qo3 qn3 qc3) ∧ w'.cell? ⟨XB, 1, none⟩ = some (.int .i64 nd) ∧ w'.cell? ⟨XB, 2, none⟩ = some (.int .u64 b) ∧ w'.cell? ⟨XB, 4, none⟩ = some (.int .u64 lo) ∧ w'.cell? ⟨XB, 6, none⟩ = some (.slice vo vs.length vc)) ((w6.setRow w4.heap.size #[.int .i64 R'.many, .int .i64 R'.stage, .int .u64 R'.ballot, .int .u64 R'.first, .int .u64 R'.next, .slice q'o1 q'n1 q'c1, .slice q'o2 q'n2 q'c2, .slice q'o3 q'n3 q'c3])) := by
                           have hT := HS7.out
                           obtain ⟨x0, x1, x2, x3, x4, x5, x6⟩ := cells7 (hT.get 2 rfl : ((w6.setRow w4.heap.size #[.int .i64 R'.many, .int .i64 R'.stage, .int .u64 R'.ballot, .int .u64 R'.first, .int .u64 R'.next, .slice q'o1 q'n1 q'c1, .slice q'o2 q'n2 q'c2, .slice q'o3 q'n3 q'c3])).heap[XB]? = some (.cells #[.int .i64 kd, .int .i64 nd, .int .u64 b, .int .u64 sl, .int .u64 lo, .slice so xs.length sc, .slice vo vs.length vc] 68))
                           obtain ⟨y0, y1, y2, y3, y4, y5, y6, y7⟩ := cells8 (hT.get 3 rfl : ((w6.setRow w4.heap.size #[.int .i64 R'.many, .int .i64 R'.stage, .int .u64 R'.ballot, .int .u64 R'.first, .int .u64 R'.next, .slice q'o1 q'n1 q'c1, .slice q'o2 q'n2 q'c2, .slice q'o3 q'n3 q'c3])).heap[WB]? = some (.cells #[.int .i64 R.many, .int .i64 R.stage, .int .u64 R.ballot, .int .u64 R.first, .int .u64 R.next, .slice qo1 qn1 qc1, .slice qo2 qn2 qc2, .slice qo3 qn3 qc3] 66))
                           exact ⟨y0, y1, y2, y3, y4, y5, y6, y7, x1, x2, x4, x6⟩
                         clear hs6 hpr hinv')
                      | (go_at_call 34; (with_reducible refine HC2.out.mono ?_); rintro e w6 ⟨out', is', R', S', ⟨q'o1, q'n1, q'c1, q'o2, q'n2, q'c2, q'o3, q'n3, q'c3⟩, uo, uc, hpr, rfl, hs6⟩
                         (obtain ⟨rfl, rfl, hol, hinv'⟩ := HI.out.pm hm2 hf8 HUl.out (fun v hv => (HVw.out v hv).1) hN' HPm.out hpr)
                         have HI' := Lib.hid hinv'
                         simp only [rlV, Sx.p, Sx.k, Sx.o]
                         have HS6 : Hid (SepW W w6 [obRef (.slice ro vs.length rc) vs, obVts (.slice po out.length pc) 39 us out, obBlk XB (.cells #[.int .i64 kd, .int .i64 nd, .int .u64 b, .int .u64 sl, .int .u64 lo, .slice so xs.length sc, .slice vo vs.length vc] 68), obBlk WB (.cells #[.int .i64 R.many, .int .i64 R.stage, .int .u64 R.ballot, .int .u64 R.first, .int .u64 R.next, .slice qo1 qn1 qc1, .slice qo2 qn2 qc2, .slice qo3 qn3 qc3] 66), obLea (.pointer (some ⟨b0, 0, none⟩)) D' N' A', obSo S' R' (.slice q'o1 q'n1 q'c1) (.slice q'o2 q'n2 q'c2) (.slice q'o3 q'n3 q'c3) (.slice uo out.length uc) out]) := Lib.hid hs6
                         have hS6 : (fun w' => w'.cell? ⟨WB, 0, none⟩ = some (.int .i64 R.many) ∧ w'.cell? ⟨WB, 1, none⟩ = some (.int .i64 R.stage) ∧ w'.cell? ⟨WB, 2, none⟩ = some (.int .u64 R.ballot) ∧ w'.cell? ⟨WB, 3, none⟩ = some (.int .u64 R.first) ∧ w'.cell? ⟨WB, 4, none⟩ = some (.int .u64 R.next) ∧ w'.cell? ⟨WB, 5, none⟩ = some (.slice qo1 qn1 qc1) ∧ w'.cell? ⟨WB, 6, none⟩ = some (.slice qo2 qn2 qc2) ∧ w'.cell? ⟨WB, 7, none⟩ = some (.slice qo3 qn3 qc3) ∧ w'.cell? ⟨XB, 1, none⟩ = some (.int .i64 nd) ∧ w'.cell? ⟨XB, 2, none⟩ = some (.int .u64 b) ∧ w'.cell? ⟨XB, 4, none⟩ = some (.int .u64 lo) ∧ w'.cell? ⟨XB, 6, none⟩ = some (.slice vo vs.length vc)) w6 := by
                           obtain ⟨x0, x1, x2, x3, x4, x5, x6⟩ := cells7 (HS6.out.get 2 rfl : w6.heap[XB]? = some (.cells #[.int .i64 kd, .int .i64 nd, .int .u64 b, .int .u64 sl, .int .u64 lo, .slice so xs.length sc, .slice vo vs.length vc] 68))
                           obtain ⟨y0, y1, y2, y3, y4, y5, y6, y7⟩ := cells8 (HS6.out.get 3 rfl : w6.heap[WB]? = some (.cells #[.int .i64 R.many, .int .i64 R.stage, .int .u64 R.ballot, .int .u64 R.first, .int .u64 R.next, .slice qo1 qn1 qc1, .slice qo2 qn2 qc2, .slice qo3 qn3 qc3] 66))
                           exact ⟨y0, y1, y2, y3, y4, y5, y6, y7, x1, x2, x4, x6⟩
                         have hST := run_rowStoreB (P := Try.prog) 66 w6.heap.size #[.int .i64 R'.many, .int .i64 R'.stage, .int .u64 R'.ballot, .int .u64 R'.first, .int .u64 R'.next, .slice q'o1 q'n1 q'c1, .slice q'o2 q'n2 q'c2, .slice q'o3 q'n3 q'c3] 66 _ (heap_alloc_new w6 (.cells #[.int .i64 0, .int .i64 0, .int .u64 0, .int .u64 0, .int .u64 0, .slice none 0 0, .slice none 0 0, .slice none 0 0] 66)) (by kernel_rfl) rfl (by kernel_rfl)
                         rw [setRow_alloc0] at hST
                         have hS7 : (fun w' => w'.cell? ⟨WB, 0, none⟩ = some (.int .i64 R.many) ∧ w'.cell? ⟨WB, 1, none⟩ = some (.int .i64 R.stage) ∧ w'.cell? ⟨WB, 2, none⟩ = some (.int .u64 R.ballot) ∧ w'.cell? ⟨WB, 3, none⟩ = some (.int .u64 R.first) ∧ w'.cell? ⟨WB, 4, none⟩ = some (.int .u64 R.next) ∧ w'.cell? ⟨WB, 5, none⟩ = some (.slice qo1 qn1 qc1) ∧ w'.cell? ⟨WB, 6, none⟩ = some (.slice qo2 qn2 qc2) ∧ w'.cell? ⟨WB, 7, none⟩ = some (.slice qo3 qn3 qc3) ∧ w'.cell? ⟨XB, 1, none⟩ = some (.int .i64 nd) ∧ w'.cell? ⟨XB, 2, none⟩ = some (.int .u64 b) ∧ w'.cell? ⟨XB, 4, none⟩ = some (.int .u64 lo) ∧ w'.cell? ⟨XB, 6, none⟩ = some (.slice vo vs.length vc)) (w6.alloc (.cells #[.int .i64 0, .int .i64 0, .int .u64 0, .int .u64 0, .int .u64 0, .slice none 0 0, .slice none 0 0, .slice none 0 0] 66)) := by
                           have hT := HS6.out.newBlk #[.int .i64 0, .int .i64 0, .int .u64 0, .int .u64 0, .int .u64 0, .slice none 0 0, .slice none 0 0, .slice none 0 0] 66
                           obtain ⟨x0, x1, x2, x3, x4, x5, x6⟩ := cells7 (hT.get 3 rfl : (w6.alloc (.cells #[.int .i64 0, .int .i64 0, .int .u64 0, .int .u64 0, .int .u64 0, .slice none 0 0, .slice none 0 0, .slice none 0 0] 66)).heap[XB]? = some (.cells #[.int .i64 kd, .int .i64 nd, .int .u64 b, .int .u64 sl, .int .u64 lo, .slice so xs.length sc, .slice vo vs.length vc] 68))
                           obtain ⟨y0, y1, y2, y3, y4, y5, y6, y7⟩ := cells8 (hT.get 4 rfl : (w6.alloc (.cells #[.int .i64 0, .int .i64 0, .int .u64 0, .int .u64 0, .int .u64 0, .slice none 0 0, .slice none 0 0, .slice none 0 0] 66)).heap[WB]? = some (.cells #[.int .i64 R.many, .int .i64 R.stage, .int .u64 R.ballot, .int .u64 R.first, .int .u64 R.next, .slice qo1 qn1 qc1, .slice qo2 qn2 qc2, .slice qo3 qn3 qc3] 66))
                           exact ⟨y0, y1, y2, y3, y4, y5, y6, y7, x1, x2, x4, x6⟩
                         have HS7 : Hid (SepW W (w6.alloc (.cells #[.int .i64 R'.many, .int .i64 R'.stage, .int .u64 R'.ballot, .int .u64 R'.first, .int .u64 R'.next, .slice q'o1 q'n1 q'c1, .slice q'o2 q'n2 q'c2, .slice q'o3 q'n3 q'c3] 66)) [obBlk w6.heap.size (.cells #[.int .i64 R'.many, .int .i64 R'.stage, .int .u64 R'.ballot, .int .u64 R'.first, .int .u64 R'.next, .slice q'o1 q'n1 q'c1, .slice q'o2 q'n2 q'c2, .slice q'o3 q'n3 q'c3] 66), obVts (.slice po out.length pc) 39 us out, obBlk XB (.cells #[.int .i64 kd, .int .i64 nd, .int .u64 b, .int .u64 sl, .int .u64 lo, .slice so xs.length sc, .slice vo vs.length vc] 68), obBlk WB (.cells #[.int .i64 R.many, .int .i64 R.stage, .int .u64 R.ballot, .int .u64 R.first, .int .u64 R.next, .slice qo1 qn1 qc1, .slice qo2 qn2 qc2, .slice qo3 qn3 qc3] 66), obLea (.pointer (some ⟨b0, 0, none⟩)) D' N' A', obSo S' R' (.slice q'o1 q'n1 q'c1) (.slice q'o2 q'n2 q'c2) (.slice q'o3 q'n3 q'c3) (.slice uo out.length uc) out]) := Lib.hid ((HS6.out.newBlk #[.int .i64 R'.many, .int .i64 R'.stage, .int .u64 R'.ballot, .int .u64 R'.first, .int .u64 R'.next, .slice q'o1 q'n1 q'c1, .slice q'o2 q'n2 q'c2, .slice q'o3 q'n3 q'c3] 66).sub (List.Sublist.cons_cons _ (List.sublist_cons_self _ _)))
                         have hS7b : (fun w' => w'.cell? ⟨WB, 0, none⟩ = some (.int .i64 R.many) ∧ w'.cell? ⟨WB, 1, none⟩ = some (.int .i64 R.stage) ∧ w'.cell? ⟨WB, 2, none⟩ = some (.int .u64 R.ballot) ∧ w'.cell? ⟨WB, 3, none⟩ = some (.int .u64 R.first) ∧ w'.cell? ⟨WB, 4, none⟩ = some (.int .u64 R.next) ∧ w'.cell? ⟨WB, 5, none⟩ = some (.slice qo1 qn1 qc1) ∧ w'.cell? ⟨WB, 6, none⟩ = some (.slice qo2 qn2 qc2) ∧ w'.cell? ⟨WB, 7, none⟩ = some (.slice qo3 qn3 qc3) ∧ w'.cell? ⟨XB, 1, none⟩ = some (.int .i64 nd) ∧ w'.cell? ⟨XB, 2, none⟩ = some (.int .u64 b) ∧ w'.cell? ⟨XB, 4, none⟩ = some (.int .u64 lo) ∧ w'.cell? ⟨XB, 6, none⟩ = some (.slice vo vs.length vc)) (w6.alloc (.cells #[.int .i64 R'.many, .int .i64 R'.stage, .int .u64 R'.ballot, .int .u64 R'.first, .int .u64 R'.next, .slice q'o1 q'n1 q'c1, .slice q'o2 q'n2 q'c2, .slice q'o3 q'n3 q'c3] 66)) := by
                           have hT := HS7.out
                           obtain ⟨x0, x1, x2, x3, x4, x5, x6⟩ := cells7 (hT.get 2 rfl : (w6.alloc (.cells #[.int .i64 R'.many, .int .i64 R'.stage, .int .u64 R'.ballot, .int .u64 R'.first, .int .u64 R'.next, .slice q'o1 q'n1 q'c1, .slice q'o2 q'n2 q'c2, .slice q'o3 q'n3 q'c3] 66)).heap[XB]? = some (.cells #[.int .i64 kd, .int .i64 nd, .int .u64 b, .int .u64 sl, .int .u64 lo, .slice so xs.length sc, .slice vo vs.length vc] 68))
                           obtain ⟨y0, y1, y2, y3, y4, y5, y6, y7⟩ := cells8 (hT.get 3 rfl : (w6.alloc (.cells #[.int .i64 R'.many, .int .i64 R'.stage, .int .u64 R'.ballot, .int .u64 R'.first, .int .u64 R'.next, .slice q'o1 q'n1 q'c1, .slice q'o2 q'n2 q'c2, .slice q'o3 q'n3 q'c3] 66)).heap[WB]? = some (.cells #[.int .i64 R.many, .int .i64 R.stage, .int .u64 R.ballot, .int .u64 R.first, .int .u64 R.next, .slice qo1 qn1 qc1, .slice qo2 qn2 qc2, .slice qo3 qn3 qc3] 66))
                           exact ⟨y0, y1, y2, y3, y4, y5, y6, y7, x1, x2, x4, x6⟩
                         clear hs6 hpr hinv'))
                    all_goals
                      clear hMk
                      go_wp2_with fail
                      go_meet
                      exact ⟨_, R', S', q'o1, q'n1, q'c1, q'o2, q'n2, q'c2, q'o3, q'n3, q'c3, uo, uc, rfl, rfl, rfl, hol, HI'.out, HS7.out⟩
                  case rest =>
                    as_aux_lemma =>
                      obtain ⟨RB, R', S', q'o1, q'n1, q'c1, q'o2, q'n2, q'c2, q'o3, q'n3, q'c3, uo, uc, rfl, rfl, rfl, hol, hinv', hs7⟩ := hcut
                      have HI' := Lib.hid hinv'
                      have HS7 : Hid (SepW W wc [obBlk RB (.cells #[.int .i64 R'.many, .int .i64 R'.stage, .int .u64 R'.ballot, .int .u64 R'.first, .int .u64 R'.next, .slice q'o1 q'n1 q'c1, .slice q'o2 q'n2 q'c2, .slice q'o3 q'n3 q'c3] 66), obVts (.slice po out.length pc) 39 us out, obBlk XB (.cells #[.int .i64 kd, .int .i64 nd, .int .u64 b, .int .u64 sl, .int .u64 lo, .slice so xs.length sc, .slice vo vs.length vc] 68), obBlk WB (.cells #[.int .i64 R.many, .int .i64 R.stage, .int .u64 R.ballot, .int .u64 R.first, .int .u64 R.next, .slice qo1 qn1 qc1, .slice qo2 qn2 qc2, .slice qo3 qn3 qc3] 66), obLea (.pointer (some ⟨b0, 0, none⟩)) D' N' A', obSo S' R' (.slice q'o1 q'n1 q'c1) (.slice q'o2 q'n2 q'c2) (.slice q'o3 q'n3 q'c3) (.slice uo out.length uc) out]) := Lib.hid hs7
                      have hii : (is != is) = false := by simp
                      clear hs7 hinv' HPm
                      obtain ⟨r0, r1, r2, r3, r4, r5, r6, r7⟩ := cells8 (HS7.out.get 0 rfl : wc.heap[RB]? = some (.cells #[.int .i64 R'.many, .int .i64 R'.stage, .int .u64 R'.ballot, .int .u64 R'.first, .int .u64 R'.next, .slice q'o1 q'n1 q'c1, .slice q'o2 q'n2 q'c2, .slice q'o3 q'n3 q'c3] 66))
                      go_wp2_with (first | (refine wpList_store_rowTo rfl 66 (.tmp 8) (.tmp 139) rfl rfl WB #[.int .i64 R'.many, .int .i64 R'.stage, .int .u64 R'.ballot, .int .u64 R'.first, .int .u64 R'.next, .slice q'o1 q'n1 q'c1, .slice q'o2 q'n2 q'c2, .slice q'o3 q'n3 q'c3] rfl rfl 66 _ (HS7.out.get 3 rfl : wc.heap[WB]? = some (.cells #[.int .i64 R.many, .int .i64 R.stage, .int .u64 R.ballot, .int .u64 R.first, .int .u64 R.next, .slice qo1 qn1 qc1, .slice qo2 qn2 qc2, .slice qo3 qn3 qc3] 66)) (by kernel_rfl) rfl (by kernel_rfl) ?_) | fail)
                      have hs8 := HS7.out.blkRow 3 #[.int .i64 R'.many, .int .i64 R'.stage, .int .u64 R'.ballot, .int .u64 R'.first, .int .u64 R'.next, .slice q'o1 q'n1 q'c1, .slice q'o2 q'n2 q'c2, .slice q'o3 q'n3 q'c3] rfl
                      clear r0 r1 r2 r3 r4 r5 r6 r7
                      generalize wc.setRow WB #[.int .i64 R'.many, .int .i64 R'.stage, .int .u64 R'.ballot, .int .u64 R'.first, .int .u64 R'.next, .slice q'o1 q'n1 q'c1, .slice q'o2 q'n2 q'c2, .slice q'o3 q'n3 q'c3] = W8 at *
                      have HS8 : Hid (SepW W W8 [obBlk RB (.cells #[.int .i64 R'.many, .int .i64 R'.stage, .int .u64 R'.ballot, .int .u64 R'.first, .int .u64 R'.next, .slice q'o1 q'n1 q'c1, .slice q'o2 q'n2 q'c2, .slice q'o3 q'n3 q'c3] 66), obVts (.slice po out.length pc) 39 us out, obBlk XB (.cells #[.int .i64 kd, .int .i64 nd, .int .u64 b, .int .u64 sl, .int .u64 lo, .slice so xs.length sc, .slice vo vs.length vc] 68), obBlk WB (.cells #[.int .i64 R'.many, .int .i64 R'.stage, .int .u64 R'.ballot, .int .u64 R'.first, .int .u64 R'.next, .slice q'o1 q'n1 q'c1, .slice q'o2 q'n2 q'c2, .slice q'o3 q'n3 q'c3] 66), obLea (.pointer (some ⟨b0, 0, none⟩)) D' N' A', obSo S' R' (.slice q'o1 q'n1 q'c1) (.slice q'o2 q'n2 q'c2) (.slice q'o3 q'n3 q'c3) (.slice uo out.length uc) out]) := Lib.hid hs8
                      clear hs8 HS7
                      refine (HS8.out.lvotes 1 rfl hol).mono ?_
                      rintro e w9 ⟨vto, vtc, rfl, hs9⟩
                      have HS9 := Lib.hid hs9
                      clear hs9
                      go_wp2_with fail
                      refine (same_any (HS9.out.refL 0 rfl) (HS9.out.soOut 6 rfl)).mono ?_
                      rintro e W4 ⟨rfl, hd⟩
                      have HS4 : Hid (SepW W W4 [obBlk XB (.cells #[.int .i64 kd, .int .i64 nd, .int .u64 b, .int .u64 sl, .int .u64 lo, .slice so xs.length sc, .slice vo vs.length vc] 68), obBlk WB (.cells #[.int .i64 R'.many, .int .i64 R'.stage, .int .u64 R'.ballot, .int .u64 R'.first, .int .u64 R'.next, .slice q'o1 q'n1 q'c1, .slice q'o2 q'n2 q'c2, .slice q'o3 q'n3 q'c3] 66), obLea (.pointer (some ⟨b0, 0, none⟩)) D' N' A', obSt S' R' (.slice q'o1 q'n1 q'c1) (.slice q'o2 q'n2 q'c2) (.slice q'o3 q'n3 q'c3)]) := Lib.hid (((HS9.out.step hd.below).soSt 6 rfl).sub (List.sublist_append_right [_, _, _] _))
                      clear hd HS9 HS8
                      go_wp2_with fail
                      go_meet
                      exact ⟨0, N', A', R', D', S', q'o1, q'n1, q'c1, q'o2, q'n2, q'c2, q'o3, q'n3, q'c3, rfl, rfl, HI'.out, HS4.out⟩
            · have hq0 : (q == 0) = false := by rw [beq_eq_false_iff_ne]; omega
              have hq1 : (q == 1) = false := by rw [beq_eq_false_iff_ne]; omega
              have hq2 : (q == 2) = false := by rw [beq_eq_false_iff_ne]; omega
              have hq3 : (q == 3) = false := by rw [beq_eq_false_iff_ne]; omega
              have hq4 : (q == 4) = true := by rw [beq_iff_eq]; omega
              clear hqs
              as_aux_lemma =>
                go_wp2_with fail
                refine (HS1.out.lcProp 2 rfl (xs := xs) (HXs.out.below HS1.out.below (Nat.le_refl _)) HU8.out (by omega) (by omega)).mono ?_
                rintro e w4 ⟨v, er, A', N', D', po, pc, hpp, hN', rfl, hs2⟩
                have HS2 : Hid (SepW W (w4.alloc (.cells #[.int .u64 v.slot, .int .u64 v.ballot, .slice po v.val.length pc] 39)) [obBlk w4.heap.size (.cells #[.int .u64 v.slot, .int .u64 v.ballot, .slice po v.val.length pc] 39), obRow (.slice po v.val.length pc) 5 1 v.val.length (u8s v.val), obBlk XB (.cells #[.int .i64 kd, .int .i64 nd, .int .u64 b, .int .u64 sl, .int .u64 lo, .slice so xs.length sc, .slice vo vs.length vc] 68), obBlk WB (.cells #[.int .i64 R.many, .int .i64 R.stage, .int .u64 R.ballot, .int .u64 R.first, .int .u64 R.next, .slice qo1 qn1 qc1, .slice qo2 qn2 qc2, .slice qo3 qn3 qc3] 66), obLea (.pointer (some ⟨b0, 0, none⟩)) D' N' A', obSt S R (.slice qo1 qn1 qc1) (.slice qo2 qn2 qc2) (.slice qo3 qn3 qc3)]) := Lib.hid (hs2.newBlk #[.int .u64 v.slot, .int .u64 v.ballot, .slice po v.val.length pc] 39)
                have hmR : 1 ≤ R.many ∧ R.many ≤ 32 := by have h1 := HI.out.rel.many; have h2 := HI.out.many; omega
                have hOk := HI.out.op
                clear hs2
                clear x0 x1 x2 x3 x4 x5 x6
                obtain ⟨x0, x1, x2, x3, x4, x5, x6⟩ := cells7 (HS2.out.get 2 rfl : (w4.alloc (.cells #[.int .u64 v.slot, .int .u64 v.ballot, .slice po v.val.length pc] 39)).heap[XB]? = some (.cells #[.int .i64 kd, .int .i64 nd, .int .u64 b, .int .u64 sl, .int .u64 lo, .slice so xs.length sc, .slice vo vs.length vc] 68))
                obtain ⟨y0, y1, y2, y3, y4, y5, y6, y7⟩ := cells8 (HS2.out.get 3 rfl : (w4.alloc (.cells #[.int .u64 v.slot, .int .u64 v.ballot, .slice po v.val.length pc] 39)).heap[WB]? = some (.cells #[.int .i64 R.many, .int .i64 R.stage, .int .u64 R.ballot, .int .u64 R.first, .int .u64 R.next, .slice qo1 qn1 qc1, .slice qo2 qn2 qc2, .slice qo3 qn3 qc3] 66))
                have yz : ∀ j, (w4.alloc (.cells #[.int .u64 v.slot, .int .u64 v.ballot, .slice po v.val.length pc] 39)).frozen? ⟨WB, j, none⟩ = false := fun j => by have hh : (w4.alloc (.cells #[.int .u64 v.slot, .int .u64 v.ballot, .slice po v.val.length pc] 39)).heap[WB]? = _ := HS2.out.get 3 rfl; simp [World.frozen?, hh]
                have rc : (convert 30 9 (.slice so xs.length sc)).run Try.prog (w4.alloc (.cells #[.int .u64 v.slot, .int .u64 v.ballot, .slice po v.val.length pc] 39)) = .ok (.string (strB xs)) (w4.alloc (.cells #[.int .u64 v.slot, .int .u64 v.ballot, .slice po v.val.length pc] 39)) := run_strB Try.underlying30 Try.underlying5 Try.underlying9 (HXs.out.below HS2.out.below (Nat.le_refl _))
                have hc : Calls Try.prog 37 #[.agg #[.int .i64 R.many, .int .i64 R.stage, .int .u64 R.ballot, .int .u64 R.first, .int .u64 R.next, .slice qo1 qn1 qc1, .slice qo2 qn2 qc2, .slice qo3 qn3 qc3], .string (strB xs)] (w4.alloc (.cells #[.int .u64 v.slot, .int .u64 v.ballot, .slice po v.val.length pc] 39)) _ := HS2.out.drProp 5 rfl xs HI.out.un (by omega)
                have HC := Lib.hid hc
                clear hc
                go_wp2_with fail
                refine HC.out.mono ?_
                rintro e w5 ⟨v', er', R', S', ⟨q'o1, q'n1, q'c1, q'o2, q'n2, q'c2, q'o3, q'n3, q'c3⟩, hpr, rfl, hs3⟩
                obtain ⟨rfl, rfl, hinv'⟩ := HI.out.pp hN' hpp hpr
                have HI' := Lib.hid hinv'
                simp only [rlV, rvV, Sx.p, Sx.k, Sx.o]
                have hsz : (w5.alloc (.cells #[.int .i64 R'.many, .int .i64 R'.stage, .int .u64 R'.ballot, .int .u64 R'.first, .int .u64 R'.next, .slice q'o1 q'n1 q'c1, .slice q'o2 q'n2 q'c2, .slice q'o3 q'n3 q'c3] 66)).heap.size = w5.heap.size + 1 := by simp
                have hs3b := (hs3.newBlk #[.int .i64 R'.many, .int .i64 R'.stage, .int .u64 R'.ballot, .int .u64 R'.first, .int .u64 R'.next, .slice q'o1 q'n1 q'c1, .slice q'o2 q'n2 q'c2, .slice q'o3 q'n3 q'c3] 66).newBlk #[.int .u64 v.slot, .int .u64 v.ballot, .string (strB v.val)] 56
                rw [hsz] at hs3b
                have HS4b : Hid (SepW W ((w5.alloc (.cells #[.int .i64 R'.many, .int .i64 R'.stage, .int .u64 R'.ballot, .int .u64 R'.first, .int .u64 R'.next, .slice q'o1 q'n1 q'c1, .slice q'o2 q'n2 q'c2, .slice q'o3 q'n3 q'c3] 66)).alloc (.cells #[.int .u64 v.slot, .int .u64 v.ballot, .string (strB v.val)] 56)) [obBlk (w5.heap.size + 1) (.cells #[.int .u64 v.slot, .int .u64 v.ballot, .string (strB v.val)] 56), obBlk w5.heap.size (.cells #[.int .i64 R'.many, .int .i64 R'.stage, .int .u64 R'.ballot, .int .u64 R'.first, .int .u64 R'.next, .slice q'o1 q'n1 q'c1, .slice q'o2 q'n2 q'c2, .slice q'o3 q'n3 q'c3] 66), obBlk w4.heap.size (.cells #[.int .u64 v.slot, .int .u64 v.ballot, .slice po v.val.length pc] 39), obRow (.slice po v.val.length pc) 5 1 v.val.length (u8s v.val), obBlk XB (.cells #[.int .i64 kd, .int .i64 nd, .int .u64 b, .int .u64 sl, .int .u64 lo, .slice so xs.length sc, .slice vo vs.length vc] 68), obBlk WB (.cells #[.int .i64 R.many, .int .i64 R.stage, .int .u64 R.ballot, .int .u64 R.first, .int .u64 R.next, .slice qo1 qn1 qc1, .slice qo2 qn2 qc2, .slice qo3 qn3 qc3] 66), obLea (.pointer (some ⟨b0, 0, none⟩)) D' N' A', obSt S' R' (.slice q'o1 q'n1 q'c1) (.slice q'o2 q'n2 q'c2) (.slice q'o3 q'n3 q'c3)]) := Lib.hid hs3b
                clear x0 x1 x2 x3 x4 x5 x6
                clear y0 y1 y2 y3 y4 y5 y6 y7 yz
                clear hs3 hs3b hpp hpr hinv' HC hsz rc
                generalize w4.heap.size = VB at *
                have hMk : RowMark 66 := ⟨trivial⟩
                have hF := fresh_store (P := Try.prog) w5 #[.int .i64 0, .int .i64 0, .int .u64 0, .int .u64 0, .int .u64 0, .slice none 0 0, .slice none 0 0, .slice none 0 0] #[.int .i64 R'.many, .int .i64 R'.stage, .int .u64 R'.ballot, .int .u64 R'.first, .int .u64 R'.next, .slice q'o1 q'n1 q'c1, .slice q'o2 q'n2 q'c2, .slice q'o3 q'n3 q'c3] (.cells #[.int .u64 0, .int .u64 0, .string ⟨#[]⟩] 56) 66 (by kernel_rfl) (by kernel_rfl) (by kernel_rfl)
                have hWB := run_rowStoreB (P := Try.prog) 66 WB #[.int .i64 R'.many, .int .i64 R'.stage, .int .u64 R'.ballot, .int .u64 R'.first, .int .u64 R'.next, .slice q'o1 q'n1 q'c1, .slice q'o2 q'n2 q'c2, .slice q'o3 q'n3 q'c3] 66 _ (HS4b.out.get 5 rfl : ((w5.alloc (.cells #[.int .i64 R'.many, .int .i64 R'.stage, .int .u64 R'.ballot, .int .u64 R'.first, .int .u64 R'.next, .slice q'o1 q'n1 q'c1, .slice q'o2 q'n2 q'c2, .slice q'o3 q'n3 q'c3] 66)).alloc (.cells #[.int .u64 v.slot, .int .u64 v.ballot, .string (strB v.val)] 56)).heap[WB]? = some (.cells #[.int .i64 R.many, .int .i64 R.stage, .int .u64 R.ballot, .int .u64 R.first, .int .u64 R.next, .slice qo1 qn1 qc1, .slice qo2 qn2 qc2, .slice qo3 qn3 qc3] 66)) (by kernel_rfl) (by kernel_rfl) (by kernel_rfl)
                go_wp2_with fail
                clear hMk hF hWB
                have hs4 := HS4b.out.blkRow 5 #[.int .i64 R'.many, .int .i64 R'.stage, .int .u64 R'.ballot, .int .u64 R'.first, .int .u64 R'.next, .slice q'o1 q'n1 q'c1, .slice q'o2 q'n2 q'c2, .slice q'o3 q'n3 q'c3] rfl
                generalize ((w5.alloc (.cells #[.int .i64 R'.many, .int .i64 R'.stage, .int .u64 R'.ballot, .int .u64 R'.first, .int .u64 R'.next, .slice q'o1 q'n1 q'c1, .slice q'o2 q'n2 q'c2, .slice q'o3 q'n3 q'c3] 66)).alloc (.cells #[.int .u64 v.slot, .int .u64 v.ballot, .string (strB v.val)] 56)).setRow WB #[.int .i64 R'.many, .int .i64 R'.stage, .int .u64 R'.ballot, .int .u64 R'.first, .int .u64 R'.next, .slice q'o1 q'n1 q'c1, .slice q'o2 q'n2 q'c2, .slice q'o3 q'n3 q'c3] = W6 at *
                generalize w5.heap.size = RB at *
                have HS6 : Hid (SepW W W6 [obBlk (RB + 1) (.cells #[.int .u64 v.slot, .int .u64 v.ballot, .string (strB v.val)] 56), obBlk RB (.cells #[.int .i64 R'.many, .int .i64 R'.stage, .int .u64 R'.ballot, .int .u64 R'.first, .int .u64 R'.next, .slice q'o1 q'n1 q'c1, .slice q'o2 q'n2 q'c2, .slice q'o3 q'n3 q'c3] 66), obBlk VB (.cells #[.int .u64 v.slot, .int .u64 v.ballot, .slice po v.val.length pc] 39), obRow (.slice po v.val.length pc) 5 1 v.val.length (u8s v.val), obBlk XB (.cells #[.int .i64 kd, .int .i64 nd, .int .u64 b, .int .u64 sl, .int .u64 lo, .slice so xs.length sc, .slice vo vs.length vc] 68), obBlk WB (.cells #[.int .i64 R'.many, .int .i64 R'.stage, .int .u64 R'.ballot, .int .u64 R'.first, .int .u64 R'.next, .slice q'o1 q'n1 q'c1, .slice q'o2 q'n2 q'c2, .slice q'o3 q'n3 q'c3] 66), obLea (.pointer (some ⟨b0, 0, none⟩)) D' N' A', obSt S' R' (.slice q'o1 q'n1 q'c1) (.slice q'o2 q'n2 q'c2) (.slice q'o3 q'n3 q'c3)]) := Lib.hid hs4
                clear hs4 HS4b HS2
                obtain ⟨v0, v1, v2⟩ := cells3 (HS6.out.get 2 rfl : W6.heap[VB]? = some (.cells #[.int .u64 v.slot, .int .u64 v.ballot, .slice po v.val.length pc] 39))
                obtain ⟨r0, r1, r2⟩ := cells3 (HS6.out.get 0 rfl : W6.heap[RB + 1]? = some (.cells #[.int .u64 v.slot, .int .u64 v.ballot, .string (strB v.val)] 56))
                have HS6d := Lib.hid (HS6.out.step (Below.refl W6.heap.size W6).drew)
                as_aux_lemma =>
                  go_region_held3 (fun w' => w'.cell? ⟨VB, 0, none⟩ = some (.int .u64 v.slot) ∧ w'.cell? ⟨VB, 1, none⟩ = some (.int .u64 v.ballot) ∧ w'.cell? ⟨VB, 2, none⟩ = some (.slice po v.val.length pc) ∧ w'.cell? ⟨RB + 1, 0, none⟩ = some (.int .u64 v.slot) ∧ w'.cell? ⟨RB + 1, 1, none⟩ = some (.int .u64 v.ballot) ∧ w'.cell? ⟨RB + 1, 2, none⟩ = some (.string (strB v.val))) (first | exact hSV | go_keep)
                    (first
                      | (go_at_call 38; (with_reducible refine (lone_any (v := v) (HS6d.out.row 3 rfl)).mono ?_); rintro e W4 ⟨rfl, hb7⟩
                         unfold rvV
                         have HS4 : Hid (SepW W W4 [obBlk XB (.cells #[.int .i64 kd, .int .i64 nd, .int .u64 b, .int .u64 sl, .int .u64 lo, .slice so xs.length sc, .slice vo vs.length vc] 68), obBlk WB (.cells #[.int .i64 R'.many, .int .i64 R'.stage, .int .u64 R'.ballot, .int .u64 R'.first, .int .u64 R'.next, .slice q'o1 q'n1 q'c1, .slice q'o2 q'n2 q'c2, .slice q'o3 q'n3 q'c3] 66), obLea (.pointer (some ⟨b0, 0, none⟩)) D' N' A', obSt S' R' (.slice q'o1 q'n1 q'c1) (.slice q'o2 q'n2 q'c2) (.slice q'o3 q'n3 q'c3)]) := Lib.hid ((HS6d.out.step hb7).sub (List.sublist_append_right [_, _, _, _] _))
                         have hSV : (fun w' => w'.cell? ⟨VB, 0, none⟩ = some (.int .u64 v.slot) ∧ w'.cell? ⟨VB, 1, none⟩ = some (.int .u64 v.ballot) ∧ w'.cell? ⟨VB, 2, none⟩ = some (.slice po v.val.length pc) ∧ w'.cell? ⟨RB + 1, 0, none⟩ = some (.int .u64 v.slot) ∧ w'.cell? ⟨RB + 1, 1, none⟩ = some (.int .u64 v.ballot) ∧ w'.cell? ⟨RB + 1, 2, none⟩ = some (.string (strB v.val))) W4 := by
                           have h7 := HS6d.out.step hb7
                           obtain ⟨v0, v1, v2⟩ := cells3 (h7.get 2 rfl : W4.heap[VB]? = some (.cells #[.int .u64 v.slot, .int .u64 v.ballot, .slice po v.val.length pc] 39))
                           obtain ⟨r0, r1, r2⟩ := cells3 (h7.get 0 rfl : W4.heap[RB + 1]? = some (.cells #[.int .u64 v.slot, .int .u64 v.ballot, .string (strB v.val)] 56))
                           exact ⟨v0, v1, v2, r0, r1, r2⟩
                         clear hb7))
                  clear v0 v1 v2 r0 r1 r2 HS6
                  go_wp2_with fail
                  go_meet
                  exact ⟨er, N', A', R', D', S', q'o1, q'n1, q'c1, q'o2, q'n2, q'c2, q'o3, q'n3, q'c3, rfl, rfl, HI'.out, HS4.out⟩
            · have hq0 : (q == 0) = false := by rw [beq_eq_false_iff_ne]; omega
              have hq1 : (q == 1) = false := by rw [beq_eq_false_iff_ne]; omega
              have hq2 : (q == 2) = false := by rw [beq_eq_false_iff_ne]; omega
              have hq3 : (q == 3) = false := by rw [beq_eq_false_iff_ne]; omega
              have hq4 : (q == 4) = false := by rw [beq_eq_false_iff_ne]; omega
              go_upto_if 175 with fail
              go_cut [175] (fun s wx => s = .bool true ∧ w3 = wx)
              case first =>
                rcases hqs with hqs | hqs
                · have hq5 : (q == 5) = true := by rw [beq_iff_eq]; omega
                  go_wp2_with fail
                  go_meet
                  exact ⟨by rw [hq5], rfl⟩
                · have hq5 : (q == 5) = false := by rw [beq_eq_false_iff_ne]; omega
                  have hq6 : (q == 6) = true := by rw [beq_iff_eq]; omega
                  go_wp2_with fail
                  go_meet
                  exact ⟨rfl, rfl⟩
              case rest =>
                obtain ⟨rfl, rfl⟩ := hcut
                clear hqs
                as_aux_lemma =>
                  go_wp2_with fail
                  refine (HS1.out.lcAcc 2 rfl HUs.out (by omega)).mono ?_
                  rintro e w4 ⟨v, is, A', N', D', po, pc, hpp, hN', rfl, hs2⟩
                  have HS2 : Hid (SepW W (w4.alloc (.cells #[.int .u64 v.slot, .int .u64 v.ballot, .slice po v.val.length pc] 39)) [obBlk w4.heap.size (.cells #[.int .u64 v.slot, .int .u64 v.ballot, .slice po v.val.length pc] 39), obRow (.slice po v.val.length pc) 5 1 v.val.length (u8s v.val), obBlk XB (.cells #[.int .i64 kd, .int .i64 nd, .int .u64 b, .int .u64 sl, .int .u64 lo, .slice so xs.length sc, .slice vo vs.length vc] 68), obBlk WB (.cells #[.int .i64 R.many, .int .i64 R.stage, .int .u64 R.ballot, .int .u64 R.first, .int .u64 R.next, .slice qo1 qn1 qc1, .slice qo2 qn2 qc2, .slice qo3 qn3 qc3] 66), obLea (.pointer (some ⟨b0, 0, none⟩)) D' N' A', obSt S R (.slice qo1 qn1 qc1) (.slice qo2 qn2 qc2) (.slice qo3 qn3 qc3)]) := Lib.hid (hs2.newBlk #[.int .u64 v.slot, .int .u64 v.ballot, .slice po v.val.length pc] 39)
                  have hmR : 1 ≤ R.many ∧ R.many ≤ 32 := by have h1 := HI.out.rel.many; have h2 := HI.out.many; omega
                  have hOk := HI.out.op
                  clear hs2
                  clear x0 x1 x2 x3 x4 x5 x6
                  obtain ⟨x0, x1, x2, x3, x4, x5, x6⟩ := cells7 (HS2.out.get 2 rfl : (w4.alloc (.cells #[.int .u64 v.slot, .int .u64 v.ballot, .slice po v.val.length pc] 39)).heap[XB]? = some (.cells #[.int .i64 kd, .int .i64 nd, .int .u64 b, .int .u64 sl, .int .u64 lo, .slice so xs.length sc, .slice vo vs.length vc] 68))
                  obtain ⟨y0, y1, y2, y3, y4, y5, y6, y7⟩ := cells8 (HS2.out.get 3 rfl : (w4.alloc (.cells #[.int .u64 v.slot, .int .u64 v.ballot, .slice po v.val.length pc] 39)).heap[WB]? = some (.cells #[.int .i64 R.many, .int .i64 R.stage, .int .u64 R.ballot, .int .u64 R.first, .int .u64 R.next, .slice qo1 qn1 qc1, .slice qo2 qn2 qc2, .slice qo3 qn3 qc3] 66))
                  have yz : ∀ j, (w4.alloc (.cells #[.int .u64 v.slot, .int .u64 v.ballot, .slice po v.val.length pc] 39)).frozen? ⟨WB, j, none⟩ = false := fun j => by have hh : (w4.alloc (.cells #[.int .u64 v.slot, .int .u64 v.ballot, .slice po v.val.length pc] 39)).heap[WB]? = _ := HS2.out.get 3 rfl; simp [World.frozen?, hh]
                  have hc : Calls Try.prog 40 #[.agg #[.int .i64 R.many, .int .i64 R.stage, .int .u64 R.ballot, .int .u64 R.first, .int .u64 R.next, .slice qo1 qn1 qc1, .slice qo2 qn2 qc2, .slice qo3 qn3 qc3], .int .i64 nd, .int .u64 b, .int .u64 sl] (w4.alloc (.cells #[.int .u64 v.slot, .int .u64 v.ballot, .slice po v.val.length pc] 39)) _ := HS2.out.drAcc 5 rfl nd b sl hmR (by omega) (fun o ho => by have := HI.out.who o ho; omega)
                  have HC := Lib.hid hc
                  clear hc
                  go_wp2_with fail
                  refine HC.out.mono ?_
                  rintro e w5 ⟨v', is', R', S', ⟨q'o1, q'n1, q'c1, q'o2, q'n2, q'c2, q'o3, q'n3, q'c3⟩, hpr, rfl, hs3⟩
                  obtain ⟨rfl, rfl, hinv'⟩ := HI.out.ac hm2 hN' hpp hpr
                  have HI' := Lib.hid hinv'
                  simp only [rlV, rvV, Sx.p, Sx.k, Sx.o]
                  have hsz : (w5.alloc (.cells #[.int .i64 R'.many, .int .i64 R'.stage, .int .u64 R'.ballot, .int .u64 R'.first, .int .u64 R'.next, .slice q'o1 q'n1 q'c1, .slice q'o2 q'n2 q'c2, .slice q'o3 q'n3 q'c3] 66)).heap.size = w5.heap.size + 1 := by simp
                  have hs3b := (hs3.newBlk #[.int .i64 R'.many, .int .i64 R'.stage, .int .u64 R'.ballot, .int .u64 R'.first, .int .u64 R'.next, .slice q'o1 q'n1 q'c1, .slice q'o2 q'n2 q'c2, .slice q'o3 q'n3 q'c3] 66).newBlk #[.int .u64 v.slot, .int .u64 v.ballot, .string (strB v.val)] 56
                  rw [hsz] at hs3b
                  have HS4b : Hid (SepW W ((w5.alloc (.cells #[.int .i64 R'.many, .int .i64 R'.stage, .int .u64 R'.ballot, .int .u64 R'.first, .int .u64 R'.next, .slice q'o1 q'n1 q'c1, .slice q'o2 q'n2 q'c2, .slice q'o3 q'n3 q'c3] 66)).alloc (.cells #[.int .u64 v.slot, .int .u64 v.ballot, .string (strB v.val)] 56)) [obBlk (w5.heap.size + 1) (.cells #[.int .u64 v.slot, .int .u64 v.ballot, .string (strB v.val)] 56), obBlk w5.heap.size (.cells #[.int .i64 R'.many, .int .i64 R'.stage, .int .u64 R'.ballot, .int .u64 R'.first, .int .u64 R'.next, .slice q'o1 q'n1 q'c1, .slice q'o2 q'n2 q'c2, .slice q'o3 q'n3 q'c3] 66), obBlk w4.heap.size (.cells #[.int .u64 v.slot, .int .u64 v.ballot, .slice po v.val.length pc] 39), obRow (.slice po v.val.length pc) 5 1 v.val.length (u8s v.val), obBlk XB (.cells #[.int .i64 kd, .int .i64 nd, .int .u64 b, .int .u64 sl, .int .u64 lo, .slice so xs.length sc, .slice vo vs.length vc] 68), obBlk WB (.cells #[.int .i64 R.many, .int .i64 R.stage, .int .u64 R.ballot, .int .u64 R.first, .int .u64 R.next, .slice qo1 qn1 qc1, .slice qo2 qn2 qc2, .slice qo3 qn3 qc3] 66), obLea (.pointer (some ⟨b0, 0, none⟩)) D' N' A', obSt S' R' (.slice q'o1 q'n1 q'c1) (.slice q'o2 q'n2 q'c2) (.slice q'o3 q'n3 q'c3)]) := Lib.hid hs3b
                  clear x0 x1 x2 x3 x4 x5 x6
                  clear y0 y1 y2 y3 y4 y5 y6 y7 yz
                  clear hs3 hs3b hpp hpr hinv' HC hsz
                  generalize w4.heap.size = VB at *
                  have hMk : RowMark 66 := ⟨trivial⟩
                  have hF := fresh_store (P := Try.prog) w5 #[.int .i64 0, .int .i64 0, .int .u64 0, .int .u64 0, .int .u64 0, .slice none 0 0, .slice none 0 0, .slice none 0 0] #[.int .i64 R'.many, .int .i64 R'.stage, .int .u64 R'.ballot, .int .u64 R'.first, .int .u64 R'.next, .slice q'o1 q'n1 q'c1, .slice q'o2 q'n2 q'c2, .slice q'o3 q'n3 q'c3] (.cells #[.int .u64 0, .int .u64 0, .string ⟨#[]⟩] 56) 66 (by kernel_rfl) (by kernel_rfl) (by kernel_rfl)
                  have hWB := run_rowStoreB (P := Try.prog) 66 WB #[.int .i64 R'.many, .int .i64 R'.stage, .int .u64 R'.ballot, .int .u64 R'.first, .int .u64 R'.next, .slice q'o1 q'n1 q'c1, .slice q'o2 q'n2 q'c2, .slice q'o3 q'n3 q'c3] 66 _ (HS4b.out.get 5 rfl : ((w5.alloc (.cells #[.int .i64 R'.many, .int .i64 R'.stage, .int .u64 R'.ballot, .int .u64 R'.first, .int .u64 R'.next, .slice q'o1 q'n1 q'c1, .slice q'o2 q'n2 q'c2, .slice q'o3 q'n3 q'c3] 66)).alloc (.cells #[.int .u64 v.slot, .int .u64 v.ballot, .string (strB v.val)] 56)).heap[WB]? = some (.cells #[.int .i64 R.many, .int .i64 R.stage, .int .u64 R.ballot, .int .u64 R.first, .int .u64 R.next, .slice qo1 qn1 qc1, .slice qo2 qn2 qc2, .slice qo3 qn3 qc3] 66)) (by kernel_rfl) (by kernel_rfl) (by kernel_rfl)
                  go_wp2_with fail
                  clear hMk hF hWB
                  have hs4 := HS4b.out.blkRow 5 #[.int .i64 R'.many, .int .i64 R'.stage, .int .u64 R'.ballot, .int .u64 R'.first, .int .u64 R'.next, .slice q'o1 q'n1 q'c1, .slice q'o2 q'n2 q'c2, .slice q'o3 q'n3 q'c3] rfl
                  generalize ((w5.alloc (.cells #[.int .i64 R'.many, .int .i64 R'.stage, .int .u64 R'.ballot, .int .u64 R'.first, .int .u64 R'.next, .slice q'o1 q'n1 q'c1, .slice q'o2 q'n2 q'c2, .slice q'o3 q'n3 q'c3] 66)).alloc (.cells #[.int .u64 v.slot, .int .u64 v.ballot, .string (strB v.val)] 56)).setRow WB #[.int .i64 R'.many, .int .i64 R'.stage, .int .u64 R'.ballot, .int .u64 R'.first, .int .u64 R'.next, .slice q'o1 q'n1 q'c1, .slice q'o2 q'n2 q'c2, .slice q'o3 q'n3 q'c3] = W6 at *
                  generalize w5.heap.size = RB at *
                  have HS6 : Hid (SepW W W6 [obBlk (RB + 1) (.cells #[.int .u64 v.slot, .int .u64 v.ballot, .string (strB v.val)] 56), obBlk RB (.cells #[.int .i64 R'.many, .int .i64 R'.stage, .int .u64 R'.ballot, .int .u64 R'.first, .int .u64 R'.next, .slice q'o1 q'n1 q'c1, .slice q'o2 q'n2 q'c2, .slice q'o3 q'n3 q'c3] 66), obBlk VB (.cells #[.int .u64 v.slot, .int .u64 v.ballot, .slice po v.val.length pc] 39), obRow (.slice po v.val.length pc) 5 1 v.val.length (u8s v.val), obBlk XB (.cells #[.int .i64 kd, .int .i64 nd, .int .u64 b, .int .u64 sl, .int .u64 lo, .slice so xs.length sc, .slice vo vs.length vc] 68), obBlk WB (.cells #[.int .i64 R'.many, .int .i64 R'.stage, .int .u64 R'.ballot, .int .u64 R'.first, .int .u64 R'.next, .slice q'o1 q'n1 q'c1, .slice q'o2 q'n2 q'c2, .slice q'o3 q'n3 q'c3] 66), obLea (.pointer (some ⟨b0, 0, none⟩)) D' N' A', obSt S' R' (.slice q'o1 q'n1 q'c1) (.slice q'o2 q'n2 q'c2) (.slice q'o3 q'n3 q'c3)]) := Lib.hid hs4
                  clear hs4 HS4b HS2
                  obtain ⟨v0, v1, v2⟩ := cells3 (HS6.out.get 2 rfl : W6.heap[VB]? = some (.cells #[.int .u64 v.slot, .int .u64 v.ballot, .slice po v.val.length pc] 39))
                  obtain ⟨r0, r1, r2⟩ := cells3 (HS6.out.get 0 rfl : W6.heap[RB + 1]? = some (.cells #[.int .u64 v.slot, .int .u64 v.ballot, .string (strB v.val)] 56))
                  have HS6d := Lib.hid (HS6.out.step (Below.refl W6.heap.size W6).drew)
                  as_aux_lemma =>
                    have hii : (is != is) = false := by simp
                    go_region_held3 (fun w' => w'.cell? ⟨VB, 0, none⟩ = some (.int .u64 v.slot) ∧ w'.cell? ⟨VB, 1, none⟩ = some (.int .u64 v.ballot) ∧ w'.cell? ⟨VB, 2, none⟩ = some (.slice po v.val.length pc) ∧ w'.cell? ⟨RB + 1, 0, none⟩ = some (.int .u64 v.slot) ∧ w'.cell? ⟨RB + 1, 1, none⟩ = some (.int .u64 v.ballot) ∧ w'.cell? ⟨RB + 1, 2, none⟩ = some (.string (strB v.val))) (first | exact hSV | go_keep)
                      (first
                        | (go_at_call 38; (with_reducible refine (lone_any (v := v) (HS6d.out.row 3 rfl)).mono ?_); rintro e W4 ⟨rfl, hb7⟩
                           unfold rvV
                           have HS4 : Hid (SepW W W4 [obBlk XB (.cells #[.int .i64 kd, .int .i64 nd, .int .u64 b, .int .u64 sl, .int .u64 lo, .slice so xs.length sc, .slice vo vs.length vc] 68), obBlk WB (.cells #[.int .i64 R'.many, .int .i64 R'.stage, .int .u64 R'.ballot, .int .u64 R'.first, .int .u64 R'.next, .slice q'o1 q'n1 q'c1, .slice q'o2 q'n2 q'c2, .slice q'o3 q'n3 q'c3] 66), obLea (.pointer (some ⟨b0, 0, none⟩)) D' N' A', obSt S' R' (.slice q'o1 q'n1 q'c1) (.slice q'o2 q'n2 q'c2) (.slice q'o3 q'n3 q'c3)]) := Lib.hid ((HS6d.out.step hb7).sub (List.sublist_append_right [_, _, _, _] _))
                           have hSV : (fun w' => w'.cell? ⟨VB, 0, none⟩ = some (.int .u64 v.slot) ∧ w'.cell? ⟨VB, 1, none⟩ = some (.int .u64 v.ballot) ∧ w'.cell? ⟨VB, 2, none⟩ = some (.slice po v.val.length pc) ∧ w'.cell? ⟨RB + 1, 0, none⟩ = some (.int .u64 v.slot) ∧ w'.cell? ⟨RB + 1, 1, none⟩ = some (.int .u64 v.ballot) ∧ w'.cell? ⟨RB + 1, 2, none⟩ = some (.string (strB v.val))) W4 := by
                             have h7 := HS6d.out.step hb7
                             obtain ⟨v0, v1, v2⟩ := cells3 (h7.get 2 rfl : W4.heap[VB]? = some (.cells #[.int .u64 v.slot, .int .u64 v.ballot, .slice po v.val.length pc] 39))
                             obtain ⟨r0, r1, r2⟩ := cells3 (h7.get 0 rfl : W4.heap[RB + 1]? = some (.cells #[.int .u64 v.slot, .int .u64 v.ballot, .string (strB v.val)] 56))
                             exact ⟨v0, v1, v2, r0, r1, r2⟩
                           clear hb7))
                    clear v0 v1 v2 r0 r1 r2 HS6
                    go_wp2_with fail
                    go_meet
                    exact ⟨0, N', A', R', D', S', q'o1, q'n1, q'c1, q'o2, q'n2, q'c2, q'o3, q'n3, q'c3, rfl, rfl, HI'.out, HS4.out⟩
            · have hq0 : (q == 0) = false := by rw [beq_eq_false_iff_ne]; omega
              have hq1 : (q == 1) = false := by rw [beq_eq_false_iff_ne]; omega
              have hq2 : (q == 2) = false := by rw [beq_eq_false_iff_ne]; omega
              have hq3 : (q == 3) = false := by rw [beq_eq_false_iff_ne]; omega
              have hq4 : (q == 4) = false := by rw [beq_eq_false_iff_ne]; omega
              have hq5 : (q == 5) = false := by rw [beq_eq_false_iff_ne]; omega
              have hq6 : (q == 6) = false := by rw [beq_eq_false_iff_ne]; omega
              clear p0 p1 p2 p3 p4 p5 p6
              as_aux_lemma =>
                go_wp2_with fail
                refine (HS1.out.leaStop 2 rfl).mono ?_
                rintro e w4 ⟨rfl, hs2⟩
                have HS2 : Hid (SepW W w4 [obBlk XB (.cells #[.int .i64 kd, .int .i64 nd, .int .u64 b, .int .u64 sl, .int .u64 lo, .slice so xs.length sc, .slice vo vs.length vc] 68), obBlk WB (.cells #[.int .i64 R.many, .int .i64 R.stage, .int .u64 R.ballot, .int .u64 R.first, .int .u64 R.next, .slice qo1 qn1 qc1, .slice qo2 qn2 qc2, .slice qo3 qn3 qc3] 66), obLea (.pointer (some ⟨b0, 0, none⟩)) D N (stopL A), obSt S R (.slice qo1 qn1 qc1) (.slice qo2 qn2 qc2) (.slice qo3 qn3 qc3)]) := Lib.hid hs2
                clear hs2
                clear x0 x1 x2 x3 x4 x5 x6
                obtain ⟨y0, y1, y2, y3, y4, y5, y6, y7⟩ := cells8 (HS2.out.get 1 rfl : w4.heap[WB]? = some (.cells #[.int .i64 R.many, .int .i64 R.stage, .int .u64 R.ballot, .int .u64 R.first, .int .u64 R.next, .slice qo1 qn1 qc1, .slice qo2 qn2 qc2, .slice qo3 qn3 qc3] 66))
                have yz : ∀ j, w4.frozen? ⟨WB, j, none⟩ = false := fun j => by have hh : w4.heap[WB]? = _ := HS2.out.get 1 rfl; simp [World.frozen?, hh]
                have hc : Calls Try.prog 42 #[.agg #[.int .i64 R.many, .int .i64 R.stage, .int .u64 R.ballot, .int .u64 R.first, .int .u64 R.next, .slice qo1 qn1 qc1, .slice qo2 qn2 qc2, .slice qo3 qn3 qc3]] w4 _ := HS2.out.drStop 3 rfl
                have HC := Lib.hid hc
                clear hc
                go_wp2_with fail
                refine HC.out.mono ?_
                rintro e w5 ⟨S', ⟨q'o1, q'n1, q'c1, q'o2, q'n2, q'c2, q'o3, q'n3, q'c3⟩, rfl, hs3⟩
                have HI' := Lib.hid HI.out.stop
                have HS3 : Hid (SepW W w5 [obBlk XB (.cells #[.int .i64 kd, .int .i64 nd, .int .u64 b, .int .u64 sl, .int .u64 lo, .slice so xs.length sc, .slice vo vs.length vc] 68), obBlk WB (.cells #[.int .i64 R.many, .int .i64 R.stage, .int .u64 R.ballot, .int .u64 R.first, .int .u64 R.next, .slice qo1 qn1 qc1, .slice qo2 qn2 qc2, .slice qo3 qn3 qc3] 66), obLea (.pointer (some ⟨b0, 0, none⟩)) D N (stopL A), obSt S' (rStop R) (.slice q'o1 q'n1 q'c1) (.slice q'o2 q'n2 q'c2) (.slice q'o3 q'n3 q'c3)]) := Lib.hid hs3
                simp only [rlV, Sx.p, Sx.k, Sx.o]
                generalize stopL A = A' at *
                generalize rStop R = R' at *
                clear hs3 HC
                clear y0 y1 y2 y3 y4 y5 y6 y7 yz
                go_wp2_with (first | (refine wpList_store_rowTo rfl 66 (.tmp 8) (.tmp 89) rfl rfl WB #[.int .i64 R'.many, .int .i64 R'.stage, .int .u64 R'.ballot, .int .u64 R'.first, .int .u64 R'.next, .slice q'o1 q'n1 q'c1, .slice q'o2 q'n2 q'c2, .slice q'o3 q'n3 q'c3] rfl rfl 66 _ (HS3.out.get 1 rfl : w5.heap[WB]? = some (.cells #[.int .i64 R.many, .int .i64 R.stage, .int .u64 R.ballot, .int .u64 R.first, .int .u64 R.next, .slice qo1 qn1 qc1, .slice qo2 qn2 qc2, .slice qo3 qn3 qc3] 66)) (by kernel_rfl) rfl (by kernel_rfl) ?_) | fail)
                have hs4 := HS3.out.blkRow 1 #[.int .i64 R'.many, .int .i64 R'.stage, .int .u64 R'.ballot, .int .u64 R'.first, .int .u64 R'.next, .slice q'o1 q'n1 q'c1, .slice q'o2 q'n2 q'c2, .slice q'o3 q'n3 q'c3] rfl
                generalize w5.setRow WB #[.int .i64 R'.many, .int .i64 R'.stage, .int .u64 R'.ballot, .int .u64 R'.first, .int .u64 R'.next, .slice q'o1 q'n1 q'c1, .slice q'o2 q'n2 q'c2, .slice q'o3 q'n3 q'c3] = W4 at *
                have HS4 : Hid (SepW W W4 [obBlk XB (.cells #[.int .i64 kd, .int .i64 nd, .int .u64 b, .int .u64 sl, .int .u64 lo, .slice so xs.length sc, .slice vo vs.length vc] 68), obBlk WB (.cells #[.int .i64 R'.many, .int .i64 R'.stage, .int .u64 R'.ballot, .int .u64 R'.first, .int .u64 R'.next, .slice q'o1 q'n1 q'c1, .slice q'o2 q'n2 q'c2, .slice q'o3 q'n3 q'c3] 66), obLea (.pointer (some ⟨b0, 0, none⟩)) D N A', obSt S' R' (.slice q'o1 q'n1 q'c1) (.slice q'o2 q'n2 q'c2) (.slice q'o3 q'n3 q'c3)]) := Lib.hid (hs4)
                clear hs4
                go_meet
                exact ⟨0, N, A', R', D, S', q'o1, q'n1, q'c1, q'o2, q'n2, q'c2, q'o3, q'n3, q'c3, rfl, rfl, HI'.out, HS4.out⟩
          case rest =>
            obtain ⟨er, N', A', R', D', S', q'o1, q'n1, q'c1, q'o2, q'n2, q'c2, q'o3, q'n3, q'c3, rfl, rfl, hinv', hs4⟩ := hcut
            have HI' := Lib.hid hinv'
            have HS4 := Lib.hid hs4
            clear hinv' hs4 HS1 HI x0 x1 x2 x3 x4 x5 x6
            generalize wc = W4 at *
            go_wp2_with fail
            as_aux_lemma =>
              have HS4d : Hid (SepW W W4.drew [obBlk XB (.cells #[.int .i64 kd, .int .i64 nd, .int .u64 b, .int .u64 sl, .int .u64 lo, .slice so xs.length sc, .slice vo vs.length vc] 68), obBlk WB (.cells #[.int .i64 R'.many, .int .i64 R'.stage, .int .u64 R'.ballot, .int .u64 R'.first, .int .u64 R'.next, .slice q'o1 q'n1 q'c1, .slice q'o2 q'n2 q'c2, .slice q'o3 q'n3 q'c3] 66), obLea (.pointer (some ⟨b0, 0, none⟩)) D' N' A', obSt S' R' (.slice q'o1 q'n1 q'c1) (.slice q'o2 q'n2 q'c2) (.slice q'o3 q'n3 q'c3)]) := Lib.hid (HS4.out.step (Below.refl W4.heap.size W4).drew)
              obtain ⟨y0, y1, y2, y3, y4, y5, y6, y7⟩ := cells8 (HS4.out.get 1 rfl : W4.heap[WB]? = some (.cells #[.int .i64 R'.many, .int .i64 R'.stage, .int .u64 R'.ballot, .int .u64 R'.first, .int .u64 R'.next, .slice q'o1 q'n1 q'c1, .slice q'o2 q'n2 q'c2, .slice q'o3 q'n3 q'c3] 66))
              have yz : ∀ j, W4.frozen? ⟨WB, j, none⟩ = false := fun j => by have hh : W4.heap[WB]? = _ := HS4.out.get 1 rfl; simp [World.frozen?, hh]
              have hee : (er != er) = false := by simp
              have hbs : ((R'.stage == 2) != (R'.stage == 2)) = false := by simp
              have hbb : (R'.ballot != R'.ballot) = false := by simp
              have hNk' := HI'.out.n
              have hOk' := HI'.out.op
              have hA1 := HI'.out.rel.stage
              have hA2 := HI'.out.rel.ballot
              have HA1 := Lib.hid hA1
              have HA2 := Lib.hid hA2
              obtain ⟨ol, hol0⟩ : ∃ ol, ol = R'.op.map (·.v) := ⟨_, rfl⟩
              have HOl := Lib.hid hol0
              have holl : ol.length ≤ 1000000 := by rw [hol0, List.length_map]; omega
              clear hA1 hA2 hol0
              go_region_held3 (fun w' => w'.cell? ⟨WB, 0, none⟩ = some (.int .i64 R'.many) ∧ w'.cell? ⟨WB, 1, none⟩ = some (.int .i64 R'.stage) ∧ w'.cell? ⟨WB, 2, none⟩ = some (.int .u64 R'.ballot) ∧ w'.cell? ⟨WB, 3, none⟩ = some (.int .u64 R'.first) ∧ w'.cell? ⟨WB, 4, none⟩ = some (.int .u64 R'.next) ∧ w'.cell? ⟨WB, 5, none⟩ = some (.slice q'o1 q'n1 q'c1) ∧ w'.cell? ⟨WB, 6, none⟩ = some (.slice q'o2 q'n2 q'c2) ∧ w'.cell? ⟨WB, 7, none⟩ = some (.slice q'o3 q'n3 q'c3)) (first | exact hS8 | exact hS7 | exact hS6 | exact hS5 | go_keep)
                (first
                  | (go_at_call 43; (with_reducible refine (HS4d.out.leaLeads 2 rfl).mono ?_); rintro e w' ⟨rfl, rfl⟩; rw [HA1.out])
                  | (go_at_call 44; (with_reducible refine (HS4d.out.leaBallot 2 rfl).mono ?_); rintro e w' ⟨rfl, rfl⟩; rw [HA2.out])
                  | (go_at_call 45; (with_reducible refine (HS4d.out.leaOpen 2 rfl (by omega)).mono ?_); rintro e w5 ⟨ks, oo, oc, ov, hks, rfl, hs5⟩
                     rw [HI'.out.rel.op.open HI'.out.rel.rise hks, ← HOl.out] at hs5 ⊢
                     have HS5 := Lib.hid hs5
                     have hS5 := cells8 (HS5.out.get 2 rfl : w5.heap[WB]? = some (.cells #[.int .i64 R'.many, .int .i64 R'.stage, .int .u64 R'.ballot, .int .u64 R'.first, .int .u64 R'.next, .slice q'o1 q'n1 q'c1, .slice q'o2 q'n2 q'c2, .slice q'o3 q'n3 q'c3] 66))
                     clear hs5 hks)
                  | (go_at_call 35; (with_reducible refine (HS5.out.lvotes 0 rfl holl).mono ?_); rintro e w6 ⟨uo, uc, rfl, hs6⟩
                     have HS6 := Lib.hid hs6
                     have hS6 := cells8 (HS6.out.get 3 rfl : w6.heap[WB]? = some (.cells #[.int .i64 R'.many, .int .i64 R'.stage, .int .u64 R'.ballot, .int .u64 R'.first, .int .u64 R'.next, .slice q'o1 q'n1 q'c1, .slice q'o2 q'n2 q'c2, .slice q'o3 q'n3 q'c3] 66))
                     have hc : Calls Try.prog 46 #[.agg #[.int .i64 R'.many, .int .i64 R'.stage, .int .u64 R'.ballot, .int .u64 R'.first, .int .u64 R'.next, .slice q'o1 q'n1 q'c1, .slice q'o2 q'n2 q'c2, .slice q'o3 q'n3 q'c3]] w6 _ := HS6.out.drOpens 5 rfl (by omega)
                     have HCo := Lib.hid hc
                     clear hs6 hc)
                  | (go_at_call 46; (with_reducible refine HCo.out.mono ?_); rintro e w7 ⟨po, pc, rfl, hs7⟩
                     rw [← HOl.out] at hs7 ⊢
                     have HS7 := Lib.hid hs7
                     have hS7 := cells8 (HS7.out.get 4 rfl : w7.heap[WB]? = some (.cells #[.int .i64 R'.many, .int .i64 R'.stage, .int .u64 R'.ballot, .int .u64 R'.first, .int .u64 R'.next, .slice q'o1 q'n1 q'c1, .slice q'o2 q'n2 q'c2, .slice q'o3 q'n3 q'c3] 66))
                     clear hs7)
                  | (go_at_call 23; (with_reducible refine (same_any (HS7.out.refL 1 rfl) (HS7.out.refL 0 rfl)).mono ?_); rintro e w8 ⟨rfl, hd8⟩
                     have HS8 := Lib.hid (HS7.out.step hd8.below)
                     have hS8 := cells8 (HS8.out.get 4 rfl : w8.heap[WB]? = some (.cells #[.int .i64 R'.many, .int .i64 R'.stage, .int .u64 R'.ballot, .int .u64 R'.first, .int .u64 R'.next, .slice q'o1 q'n1 q'c1, .slice q'o2 q'n2 q'c2, .slice q'o3 q'n3 q'c3] 66))
                     clear hd8))
              go_wp2_with fail
              go_roundw
              case rel => exact ⟨k + 1, N', A', R', D', S', q'o1, q'n1, q'c1, q'o2, q'n2, q'c2, q'o3, q'n3, q'c3, by omega, by omega, by go_num, HI'.out, HS8.out.sub (List.sublist_append_right [_, _, _, _] _)⟩
              case measure => simp [intOf]; omega
      · rcases Nat.lt_or_ge k L0.length with hex | hex
        · as_aux_lemma =>
            have hkk : decide ((k : Int) < 40) = false := decide_eq_false (by omega)
            have hkk2 : decide (k < 40) = false := decide_eq_false (by omega)
            have hkk3 : (k : Int) < (L0.length : Int) := by omega
            have hkk4 : decide ((k : Int) < (L0.length : Int)) = true := decide_eq_true hkk3
            have HBe := Lib.hid HSk.out.below
            clear H0 HW hlt HSk HI
            go_wp2_with fail
            refine (lnil_stop _).mono ?_
            rintro e wa ⟨rfl, hba⟩
            have HBa := Lib.hid (HBe.out.trans (hba.mono HBe.out.size))
            clear hba
            go_wp2_with fail
            refine (lnil_propose _).mono ?_
            rintro e wb ⟨rfl, hbb⟩
            have HBb := Lib.hid ((HBa.out.trans (hbb.mono HBa.out.size)).alloc (Nat.le_trans HBa.out.size hbb.size) (.cells #[.int .u64 0, .int .u64 0, .slice none 0 0] 39))
            clear hbb
            go_wp2_with fail
            refine (lnil_promise _ _ _ _ _).mono ?_
            rintro e wc ⟨rfl, hbc⟩
            have HBc := Lib.hid (HBb.out.trans (hbc.mono HBb.out.size))
            clear hbc
            go_wp2_with fail
            refine (lnil_accepted _ _ _ _).mono ?_
            rintro e wd ⟨rfl, hbd⟩
            have HBd := Lib.hid ((HBc.out.trans (hbd.mono HBc.out.size)).alloc (Nat.le_trans HBc.out.size hbd.size) (.cells #[.int .u64 0, .int .u64 0, .slice none 0 0] 39))
            clear hbd
            go_wp2_with fail
            refine (lnil_begin _ _ _).mono ?_
            rintro e we ⟨rfl, hbe⟩
            have HBf := Lib.hid (HBd.out.trans (hbe.mono HBd.out.size))
            clear hbe
            go_wp2_with fail
            refine (lnil_leads _).mono ?_
            rintro e wf ⟨rfl, hbf⟩
            have HBg := Lib.hid (HBf.out.trans (hbf.mono HBf.out.size))
            clear hbf
            go_wp2_with fail
            refine (lnil_ballot _).mono ?_
            rintro e wg ⟨rfl, hbg⟩
            have HBh := Lib.hid (HBg.out.trans (hbg.mono HBg.out.size))
            clear hbg
            go_wp2_with fail
            refine (lnil_open _).mono ?_
            rintro e wh ⟨rfl, hbh⟩
            have HBi := Lib.hid (HBh.out.trans (hbh.mono HBh.out.size))
            clear hbh
            go_wp2_with fail
            go_ret
            exact ⟨rfl, HBi.out⟩
        · as_aux_lemma =>
            have hkk : decide ((k : Int) < (L0.length : Int)) = false := decide_eq_false (by omega)
            have hkk2 : decide (k < L0.length) = false := decide_eq_false (by omega)
            clear hex
            have HBe := Lib.hid HSk.out.below
            clear H0 HW hlt HSk HI
            go_wp2_with fail
            refine (lnil_stop _).mono ?_
            rintro e wa ⟨rfl, hba⟩
            have HBa := Lib.hid (HBe.out.trans (hba.mono HBe.out.size))
            clear hba
            go_wp2_with fail
            refine (lnil_propose _).mono ?_
            rintro e wb ⟨rfl, hbb⟩
            have HBb := Lib.hid ((HBa.out.trans (hbb.mono HBa.out.size)).alloc (Nat.le_trans HBa.out.size hbb.size) (.cells #[.int .u64 0, .int .u64 0, .slice none 0 0] 39))
            clear hbb
            go_wp2_with fail
            refine (lnil_promise _ _ _ _ _).mono ?_
            rintro e wc ⟨rfl, hbc⟩
            have HBc := Lib.hid (HBb.out.trans (hbc.mono HBb.out.size))
            clear hbc
            go_wp2_with fail
            refine (lnil_accepted _ _ _ _).mono ?_
            rintro e wd ⟨rfl, hbd⟩
            have HBd := Lib.hid ((HBc.out.trans (hbd.mono HBc.out.size)).alloc (Nat.le_trans HBc.out.size hbd.size) (.cells #[.int .u64 0, .int .u64 0, .slice none 0 0] 39))
            clear hbd
            go_wp2_with fail
            refine (lnil_begin _ _ _).mono ?_
            rintro e we ⟨rfl, hbe⟩
            have HBf := Lib.hid (HBd.out.trans (hbe.mono HBd.out.size))
            clear hbe
            go_wp2_with fail
            refine (lnil_leads _).mono ?_
            rintro e wf ⟨rfl, hbf⟩
            have HBg := Lib.hid (HBf.out.trans (hbf.mono HBf.out.size))
            clear hbf
            go_wp2_with fail
            refine (lnil_ballot _).mono ?_
            rintro e wg ⟨rfl, hbg⟩
            have HBh := Lib.hid (HBg.out.trans (hbg.mono HBg.out.size))
            clear hbg
            go_wp2_with fail
            refine (lnil_open _).mono ?_
            rintro e wh ⟨rfl, hbh⟩
            have HBi := Lib.hid (HBh.out.trans (hbh.mono HBh.out.size))
            clear hbh
            go_wp2_with fail
            go_ret
            exact ⟨rfl, HBi.out⟩
  · as_aux_lemma =>
      rcases (by omega : many < 1 ∨ (1 ≤ many ∧ 32 < many)) with hm1 | ⟨hm1, hm2⟩
      · have hmd : decide (1 ≤ many) = false := decide_eq_false (by omega)
        go_wp2_with fail
        refine (lnew_bad hm w1).mono ?_
        rintro e w2 ⟨rfl, rfl⟩
        have HB2 := Lib.hid (HB1.out.alloc HB1.out.size (.cells #[.int .i64 many, .int .i64 0, .int .u64 0, .int .u64 0, .int .u64 0, .slice none 0 0, .slice none 0 0, .slice none 0 0] 66))
        clear HB1 H0 HW
        go_wp2_with fail
        generalize w1.alloc (.cells #[.int .i64 many, .int .i64 0, .int .u64 0, .int .u64 0, .int .u64 0, .slice none 0 0, .slice none 0 0, .slice none 0 0] 66) = W2 at *
        go_loopw [9] (fun i wr => i = .int .i64 0 ∧ Below W.heap.size W wr) (fun _ _ => 0)
        case atStart => exact ⟨rfl, HB2.out⟩
        case round =>
          obtain ⟨rfl, hbe⟩ := hrel
          have HBe := Lib.hid hbe
          clear hbe
          rcases Nat.eq_zero_or_pos L0.length with hz | hz
          · have hz2 : decide ((0 : Int) < (L0.length : Int)) = false := decide_eq_false (by omega)
            go_wp2_with fail
            refine (lnil_stop _).mono ?_
            rintro e wa ⟨rfl, hba⟩
            have HBa := Lib.hid (HBe.out.trans (hba.mono HBe.out.size))
            clear hba
            go_wp2_with fail
            refine (lnil_propose _).mono ?_
            rintro e wb ⟨rfl, hbb⟩
            have HBb := Lib.hid ((HBa.out.trans (hbb.mono HBa.out.size)).alloc (Nat.le_trans HBa.out.size hbb.size) (.cells #[.int .u64 0, .int .u64 0, .slice none 0 0] 39))
            clear hbb
            go_wp2_with fail
            refine (lnil_promise _ _ _ _ _).mono ?_
            rintro e wc ⟨rfl, hbc⟩
            have HBc := Lib.hid (HBb.out.trans (hbc.mono HBb.out.size))
            clear hbc
            go_wp2_with fail
            refine (lnil_accepted _ _ _ _).mono ?_
            rintro e wd ⟨rfl, hbd⟩
            have HBd := Lib.hid ((HBc.out.trans (hbd.mono HBc.out.size)).alloc (Nat.le_trans HBc.out.size hbd.size) (.cells #[.int .u64 0, .int .u64 0, .slice none 0 0] 39))
            clear hbd
            go_wp2_with fail
            refine (lnil_begin _ _ _).mono ?_
            rintro e we ⟨rfl, hbe⟩
            have HBf := Lib.hid (HBd.out.trans (hbe.mono HBd.out.size))
            clear hbe
            go_wp2_with fail
            refine (lnil_leads _).mono ?_
            rintro e wf ⟨rfl, hbf⟩
            have HBg := Lib.hid (HBf.out.trans (hbf.mono HBf.out.size))
            clear hbf
            go_wp2_with fail
            refine (lnil_ballot _).mono ?_
            rintro e wg ⟨rfl, hbg⟩
            have HBh := Lib.hid (HBg.out.trans (hbg.mono HBg.out.size))
            clear hbg
            go_wp2_with fail
            refine (lnil_open _).mono ?_
            rintro e wh ⟨rfl, hbh⟩
            have HBi := Lib.hid (HBh.out.trans (hbh.mono HBh.out.size))
            clear hbh
            go_wp2_with fail
            go_ret
            exact ⟨rfl, HBi.out⟩
          · have hz2 : (0 : Int) < (L0.length : Int) := by omega
            go_wp2_with fail
            refine (lnil_stop _).mono ?_
            rintro e wa ⟨rfl, hba⟩
            have HBa := Lib.hid (HBe.out.trans (hba.mono HBe.out.size))
            clear hba
            go_wp2_with fail
            refine (lnil_propose _).mono ?_
            rintro e wb ⟨rfl, hbb⟩
            have HBb := Lib.hid ((HBa.out.trans (hbb.mono HBa.out.size)).alloc (Nat.le_trans HBa.out.size hbb.size) (.cells #[.int .u64 0, .int .u64 0, .slice none 0 0] 39))
            clear hbb
            go_wp2_with fail
            refine (lnil_promise _ _ _ _ _).mono ?_
            rintro e wc ⟨rfl, hbc⟩
            have HBc := Lib.hid (HBb.out.trans (hbc.mono HBb.out.size))
            clear hbc
            go_wp2_with fail
            refine (lnil_accepted _ _ _ _).mono ?_
            rintro e wd ⟨rfl, hbd⟩
            have HBd := Lib.hid ((HBc.out.trans (hbd.mono HBc.out.size)).alloc (Nat.le_trans HBc.out.size hbd.size) (.cells #[.int .u64 0, .int .u64 0, .slice none 0 0] 39))
            clear hbd
            go_wp2_with fail
            refine (lnil_begin _ _ _).mono ?_
            rintro e we ⟨rfl, hbe⟩
            have HBf := Lib.hid (HBd.out.trans (hbe.mono HBd.out.size))
            clear hbe
            go_wp2_with fail
            refine (lnil_leads _).mono ?_
            rintro e wf ⟨rfl, hbf⟩
            have HBg := Lib.hid (HBf.out.trans (hbf.mono HBf.out.size))
            clear hbf
            go_wp2_with fail
            refine (lnil_ballot _).mono ?_
            rintro e wg ⟨rfl, hbg⟩
            have HBh := Lib.hid (HBg.out.trans (hbg.mono HBg.out.size))
            clear hbg
            go_wp2_with fail
            refine (lnil_open _).mono ?_
            rintro e wh ⟨rfl, hbh⟩
            have HBi := Lib.hid (HBh.out.trans (hbh.mono HBh.out.size))
            clear hbh
            go_wp2_with fail
            go_ret
            exact ⟨rfl, HBi.out⟩
      · have hmd : decide (many ≤ 32) = false := decide_eq_false (by omega)
        go_wp2_with fail
        refine (lnew_bad hm w1).mono ?_
        rintro e w2 ⟨rfl, rfl⟩
        have HB2 := Lib.hid (HB1.out.alloc HB1.out.size (.cells #[.int .i64 many, .int .i64 0, .int .u64 0, .int .u64 0, .int .u64 0, .slice none 0 0, .slice none 0 0, .slice none 0 0] 66))
        clear HB1 H0 HW
        go_wp2_with fail
        generalize w1.alloc (.cells #[.int .i64 many, .int .i64 0, .int .u64 0, .int .u64 0, .int .u64 0, .slice none 0 0, .slice none 0 0, .slice none 0 0] 66) = W2 at *
        go_loopw [9] (fun i wr => i = .int .i64 0 ∧ Below W.heap.size W wr) (fun _ _ => 0)
        case atStart => exact ⟨rfl, HB2.out⟩
        case round =>
          obtain ⟨rfl, hbe⟩ := hrel
          have HBe := Lib.hid hbe
          clear hbe
          rcases Nat.eq_zero_or_pos L0.length with hz | hz
          · have hz2 : decide ((0 : Int) < (L0.length : Int)) = false := decide_eq_false (by omega)
            go_wp2_with fail
            refine (lnil_stop _).mono ?_
            rintro e wa ⟨rfl, hba⟩
            have HBa := Lib.hid (HBe.out.trans (hba.mono HBe.out.size))
            clear hba
            go_wp2_with fail
            refine (lnil_propose _).mono ?_
            rintro e wb ⟨rfl, hbb⟩
            have HBb := Lib.hid ((HBa.out.trans (hbb.mono HBa.out.size)).alloc (Nat.le_trans HBa.out.size hbb.size) (.cells #[.int .u64 0, .int .u64 0, .slice none 0 0] 39))
            clear hbb
            go_wp2_with fail
            refine (lnil_promise _ _ _ _ _).mono ?_
            rintro e wc ⟨rfl, hbc⟩
            have HBc := Lib.hid (HBb.out.trans (hbc.mono HBb.out.size))
            clear hbc
            go_wp2_with fail
            refine (lnil_accepted _ _ _ _).mono ?_
            rintro e wd ⟨rfl, hbd⟩
            have HBd := Lib.hid ((HBc.out.trans (hbd.mono HBc.out.size)).alloc (Nat.le_trans HBc.out.size hbd.size) (.cells #[.int .u64 0, .int .u64 0, .slice none 0 0] 39))
            clear hbd
            go_wp2_with fail
            refine (lnil_begin _ _ _).mono ?_
            rintro e we ⟨rfl, hbe⟩
            have HBf := Lib.hid (HBd.out.trans (hbe.mono HBd.out.size))
            clear hbe
            go_wp2_with fail
            refine (lnil_leads _).mono ?_
            rintro e wf ⟨rfl, hbf⟩
            have HBg := Lib.hid (HBf.out.trans (hbf.mono HBf.out.size))
            clear hbf
            go_wp2_with fail
            refine (lnil_ballot _).mono ?_
            rintro e wg ⟨rfl, hbg⟩
            have HBh := Lib.hid (HBg.out.trans (hbg.mono HBg.out.size))
            clear hbg
            go_wp2_with fail
            refine (lnil_open _).mono ?_
            rintro e wh ⟨rfl, hbh⟩
            have HBi := Lib.hid (HBh.out.trans (hbh.mono HBh.out.size))
            clear hbh
            go_wp2_with fail
            go_ret
            exact ⟨rfl, HBi.out⟩
          · have hz2 : (0 : Int) < (L0.length : Int) := by omega
            go_wp2_with fail
            refine (lnil_stop _).mono ?_
            rintro e wa ⟨rfl, hba⟩
            have HBa := Lib.hid (HBe.out.trans (hba.mono HBe.out.size))
            clear hba
            go_wp2_with fail
            refine (lnil_propose _).mono ?_
            rintro e wb ⟨rfl, hbb⟩
            have HBb := Lib.hid ((HBa.out.trans (hbb.mono HBa.out.size)).alloc (Nat.le_trans HBa.out.size hbb.size) (.cells #[.int .u64 0, .int .u64 0, .slice none 0 0] 39))
            clear hbb
            go_wp2_with fail
            refine (lnil_promise _ _ _ _ _).mono ?_
            rintro e wc ⟨rfl, hbc⟩
            have HBc := Lib.hid (HBb.out.trans (hbc.mono HBb.out.size))
            clear hbc
            go_wp2_with fail
            refine (lnil_accepted _ _ _ _).mono ?_
            rintro e wd ⟨rfl, hbd⟩
            have HBd := Lib.hid ((HBc.out.trans (hbd.mono HBc.out.size)).alloc (Nat.le_trans HBc.out.size hbd.size) (.cells #[.int .u64 0, .int .u64 0, .slice none 0 0] 39))
            clear hbd
            go_wp2_with fail
            refine (lnil_begin _ _ _).mono ?_
            rintro e we ⟨rfl, hbe⟩
            have HBf := Lib.hid (HBd.out.trans (hbe.mono HBd.out.size))
            clear hbe
            go_wp2_with fail
            refine (lnil_leads _).mono ?_
            rintro e wf ⟨rfl, hbf⟩
            have HBg := Lib.hid (HBf.out.trans (hbf.mono HBf.out.size))
            clear hbf
            go_wp2_with fail
            refine (lnil_ballot _).mono ?_
            rintro e wg ⟨rfl, hbg⟩
            have HBh := Lib.hid (HBg.out.trans (hbg.mono HBg.out.size))
            clear hbg
            go_wp2_with fail
            refine (lnil_open _).mono ?_
            rintro e wh ⟨rfl, hbh⟩
            have HBi := Lib.hid (HBh.out.trans (hbh.mono HBh.out.size))
            clear hbh
            go_wp2_with fail
            go_ret
            exact ⟨rfl, HBi.out⟩
theorem leaderPlays_holds : Rows.LeaderPlaysSaid :=
  OpenClaim.holds_of_wide 7 Try.f7 rfl rfl rfl rfl rfl rfl rfl ⟨rfl, rfl, rfl, rfl, rfl⟩ rfl rfl rfl rfl rfl (by kernel_rfl) Try.func7 (by kernel_rfl)
    (of_decide_eq_true (by kernel_rfl)) (by unfold Func.isWrapper; rw [if_neg (by decide +kernel)]; exact ⟨rfl, rfl⟩)
    (fun os started H enc _ => law_frame (C := Try.checked) (fn := Try.f7) (s := Rows.leaderPlaysSpec) (tb := 4) Try.own started (by kernel_rfl) Try.func7 Try.laidOut rfl (by kernel_rfl) Try.underlying4 (by kernel_rfl)
      (fun ds hd => by match ds, hd with | [_, _], _ => exact ⟨rfl, rfl, rfl⟩)
      (ChangeSpec.witness6 (enc := enc) (C := Try.checked) false ⟨#[], #[.int .i64 0, .slice none 0 0], []⟩ 8 (by kernel_rfl) (by kernel_rfl) (by kernel_rfl) (by kernel_rfl))
      (fun W base args ds p hval0 hA0 _ => by
        have hval : ∀ (j : Nat) t v, Try.f7.params[j]? = some t → args[j]? = some v → Value.okWide Try.prog W .any base t v := hval0
        have hA : DataW.TrodAll enc Try.prog W 0 (fun _ => true) true Try.f7.params.toList args.toList ds p := hA0
        rw [Try.params7] at hA hval
        obtain ⟨v0, v1, d0, d1, p0, p1, rfl, rfl, rfl, h0, h1⟩ := trodAll_two hA
        obtain ⟨x0, rfl, rfl, rfl, wx0⟩ := open_int Try.underlying3 (hval 0 3 v0 rfl rfl) h0
        obtain ⟨x1, hx1, wx1⟩ := Try.lc_open (hval 1 60 v1 rfl rfl) h1
        exact leaderPlays_walk wx0 hx1 wx1))

end Go.Proofs.Ytjdjfhioobhcjaa
