/-
  The document's acceptor: Same, Prepare.
-/
import Derived.Test.YtjdjfhioobhcjaaAccV
namespace Go.Proofs.Ytjdjfhioobhcjaa
open Go.ChangeShapes Go.WideShapes Go.ChangeAt Go.RowKit Go.Maps Go.Shelf
set_option maxRecDepth 100000

set_option maxHeartbeats 2000000 in
theorem same_any {w : World} {v v' : Value} {hs : List Vt} (h : RfL w v hs) (h' : RfL w v' hs) : Calls Try.prog 23 #[v, v'] w fun e w' => e = .returned (.bool true) ∧ Drew w w' := by
  obtain ⟨ao, ac, rfl, h1, h2, hx⟩ := h
  obtain ⟨bo, bc, rfl, h3, h4, hy⟩ := h'
  have HX := Lib.hid hx
  have HY := Lib.hid hy
  clear hx hy
  go_enter Try.func23, Try.ntmps23
  go_wp2_with fail
  go_loopw [5] (fun i wr => ∃ (k : Nat), k ≤ hs.length ∧ i = .int .i64 k ∧ Drew w wr) (fun i _ => hs.length - (intOf i).toNat)
  case atStart => exact ⟨0, by omega, rfl, Drew.refl _⟩
  case round =>
    obtain ⟨k, hk, rfl, hd⟩ := hrel
    have HD := Lib.hid hd
    by_cases hlt : k < hs.length
    · have hki : (k : Int) < (hs.length : Int) := by omega
      obtain ⟨s, hsk⟩ : ∃ s, hs[k]? = some s := ⟨_, List.getElem?_eq_getElem hlt⟩
      obtain ⟨a, rfl, a0, a1, a2⟩ := HX.out k s hsk
      obtain ⟨b, rfl, b0, b1, b2⟩ := HY.out k s hsk
      have hb : Below w.heap.size w wr := HD.out.below
      have HC : Hid (∀ w' : World, Below w.heap.size w w' → w'.cell? (a.add (k * 3)) = some (.int .u64 s.slot) ∧ w'.cell? ⟨(a.add (k * 3)).block, (a.add (k * 3)).off + 1, none⟩ = some (.int .u64 s.ballot) ∧ w'.cell? ⟨(a.add (k * 3)).block, (a.add (k * 3)).off + 2, none⟩ = some (.string (strB s.val)) ∧
          w'.cell? (b.add (k * 3)) = some (.int .u64 s.slot) ∧ w'.cell? ⟨(b.add (k * 3)).block, (b.add (k * 3)).off + 1, none⟩ = some (.int .u64 s.ballot) ∧ w'.cell? ⟨(b.add (k * 3)).block, (b.add (k * 3)).off + 2, none⟩ = some (.string (strB s.val))) := Lib.hid fun w' hb =>
        ⟨(hb.cell (World.block_lt_of_cell? _ _ a0)).trans a0, (hb.cell (World.block_lt_of_cell? _ _ a1)).trans a1, (hb.cell (World.block_lt_of_cell? _ _ a2)).trans a2, (hb.cell (World.block_lt_of_cell? _ _ b0)).trans b0, (hb.cell (World.block_lt_of_cell? _ _ b1)).trans b1, (hb.cell (World.block_lt_of_cell? _ _ b2)).trans b2⟩
      have HBl := Lib.hid hb
      clear a0 a1 a2 b0 b1 b2 hsk hd hb
      obtain ⟨a0, a1, a2, b0, b1, b2⟩ := HC.out wr HBl.out
      generalize s.slot = x0 at *
      generalize s.ballot = x1 at *
      generalize strB s.val = x2 at *
      clear HX HY
      go_wp2_with fail
      go_quiet (fail)
      go_wp2_with fail
      go_roundw
      case rel => exact ⟨k + 1, by omega, by go_num, HD.out.drewN _⟩
      case measure => simp [intOf]; omega
    · have hkl : k = hs.length := by omega
      have HKl := Lib.hid hkl
      have hkd : decide ((k : Int) < (hs.length : Int)) = false := decide_eq_false (by omega)
      clear hd hkl
      go_wp2_with fail
      go_ret
      exact ⟨rfl, HD.out⟩

/-- The document's acceptor. -/
def rA (p lo : Int) (v : Value) : Value := .agg #[.int .u64 p, .int .u64 lo, v]
def RetPrep (w : World) (p lo : Int) (v : Value) (hs : List Vt) (e : Ending) (w' : World) : Prop := ∃ ao c, e = .returned (.tuple #[rA p lo v, .slice ao hs.length c, .int .i64 0]) ∧ w'.ownsRow w.heap.size 56 3 (.slice ao hs.length c) hs.length (rfC hs) ∧ Below w.heap.size w w'
set_option maxHeartbeats 2000000 in
theorem rprep_old {w : World} {v : Value} {L : List Vt} {p lo b fr : Int} (hb : b < p) (h : RfL w v L) : Calls Try.prog 22 #[rA p lo v, .int .u64 b, .int .u64 fr] w fun e w' => e = .returned (.tuple #[rA p lo v, .slice none 0 0, .int .i64 32]) ∧ Below w.heap.size w w' := by
  unfold rA
  obtain ⟨vo, vc, rfl, h1, h2, hx⟩ := h
  clear hx
  go_enter Try.func22, Try.ntmps22
  go_wp2_with fail
  have k1 := heap_alloc_new (w.alloc (.cells #[.int .u64 p, .int .u64 lo, .slice vo L.length vc] 48)) (.cells #[.int .u64 p, .int .u64 lo, .slice vo L.length vc] 48)
  have hs1 : (w.alloc (.cells #[.int .u64 p, .int .u64 lo, .slice vo L.length vc] 48)).heap.size = w.heap.size + 1 := by simp
  rw [hs1] at k1
  have HB : Hid (Below w.heap.size w _) := Lib.hid (((Below.refl w.heap.size w).alloc (Nat.le_refl _) (.cells #[.int .u64 p, .int .u64 lo, .slice vo L.length vc] 48)).alloc (by simp) (.cells #[.int .u64 p, .int .u64 lo, .slice vo L.length vc] 48))
  generalize (w.alloc (.cells #[.int .u64 p, .int .u64 lo, .slice vo L.length vc] 48)).alloc (.cells #[.int .u64 p, .int .u64 lo, .slice vo L.length vc] 48) = W4 at *
  have s0 : W4.cell? ⟨w.heap.size + 1, 0, none⟩ = some (.int .u64 p) := World.news_of_block k1 0 _ rfl
  have s1 : W4.cell? ⟨w.heap.size + 1, 1, none⟩ = some (.int .u64 lo) := World.news_of_block k1 1 _ rfl
  have s2 : W4.cell? ⟨w.heap.size + 1, 2, none⟩ = some (.slice vo L.length vc) := World.news_of_block k1 2 _ rfl
  refine bodyPost_ret (v := .tuple #[.agg #[.int .u64 p, .int .u64 lo, .slice vo L.length vc], .slice none 0 0, .int .i64 32]) (by simp [results, Try.results22, go_sem, s0, s1, s2]) rfl ?_
  exact ⟨rfl, HB.out⟩
set_option maxHeartbeats 2000000 in
theorem rprep_ok {w : World} {v : Value} {L : List Vt} {p lo b fr : Int} (hb : p ≤ b) (h : RfL w v L) (hl : L.length ≤ 1000000) : Calls Try.prog 22 #[rA p lo v, .int .u64 b, .int .u64 fr] w (RetPrep w b lo v (L.filter (fun v => decide (fr ≤ v.slot)))) := by
  unfold rA
  have hdp : decide (b < p) = false := decide_eq_false (by omega)
  have H := Lib.hid h
  obtain ⟨vo, vc, rfl, h1, h2, hx⟩ := h
  have HX := Lib.hid hx
  clear hx hb
  obtain ⟨i0, hi, hz0, hz1, hz2⟩ := info_parts Try.rvInfo
  go_enter Try.func22, Try.ntmps22
  go_wp2_with fail
  have k1 := heap_alloc_new (w.alloc (.cells #[.int .u64 b, .int .u64 lo, .slice vo L.length vc] 48)) (.cells #[.int .u64 0, .int .u64 0, .slice none 0 0] 48)
  have k0 := (Below.heap_alloc (w.alloc (.cells #[.int .u64 b, .int .u64 lo, .slice vo L.length vc] 48)) (.cells #[.int .u64 0, .int .u64 0, .slice none 0 0] 48) w.heap.size (by simp)).trans (heap_alloc_new w (.cells #[.int .u64 b, .int .u64 lo, .slice vo L.length vc] 48))
  have hs2 : ((w.alloc (.cells #[.int .u64 b, .int .u64 lo, .slice vo L.length vc] 48)).alloc (.cells #[.int .u64 0, .int .u64 0, .slice none 0 0] 48)).heap.size = w.heap.size + 2 := by simp
  have hs1 : (w.alloc (.cells #[.int .u64 b, .int .u64 lo, .slice vo L.length vc] 48)).heap.size = w.heap.size + 1 := by simp
  rw [hs1] at k1
  have HB : Hid (Below w.heap.size w _) := Lib.hid (((Below.refl w.heap.size w).alloc (Nat.le_refl _) (.cells #[.int .u64 b, .int .u64 lo, .slice vo L.length vc] 48)).alloc (by simp) (.cells #[.int .u64 0, .int .u64 0, .slice none 0 0] 48))
  generalize (w.alloc (.cells #[.int .u64 b, .int .u64 lo, .slice vo L.length vc] 48)).alloc (.cells #[.int .u64 0, .int .u64 0, .slice none 0 0] 48) = w2 at *
  have HK0 := Lib.hid k0
  have HK1 := Lib.hid k1
  clear k0 k1 hs1
  go_loopw [10, 9] (fun i ov wr => ∃ (k : Nat) (o : Option Addr) (c : Nat), k ≤ L.length ∧ i = .int .i64 k ∧ ov = .slice o (filK fr L k).length c ∧ wr.ownsRow w2.heap.size 56 3 (.slice o (filK fr L k).length c) (filK fr L k).length (rfC (filK fr L k)) ∧ Below w2.heap.size w2 wr) (fun i _ _ => L.length - (intOf i).toNat)
  case atStart => exact ⟨0, none, 0, by omega, rfl, rfl, by simpa [rfC, filK] using World.ownsRow_nil _ _ _ _, Below.refl _ _⟩
  case round =>
    obtain ⟨k, o, c, hk, rfl, rfl, hown, hbl⟩ := hrel
    have HO := Lib.hid hown
    have HB2 := Lib.hid hbl
    have HBw := Lib.hid (HB.out.trans (hbl.mono (by omega)))
    have k0 := (hbl.block w.heap.size (by omega)).trans HK0.out
    have k1 := (hbl.block (w.heap.size + 1) (by omega)).trans HK1.out
    have e0 : wr.cell? ⟨w.heap.size, 0, none⟩ = some (.int .u64 b) := World.news_of_block k0 0 _ rfl
    have e1 : wr.cell? ⟨w.heap.size, 1, none⟩ = some (.int .u64 lo) := World.news_of_block k0 1 _ rfl
    have e2 : wr.cell? ⟨w.heap.size, 2, none⟩ = some (.slice vo L.length vc) := World.news_of_block k0 2 _ rfl
    have hfl := filK_len fr L k
    have hk40 : (filK fr L k).length ≤ 1099511627776 := by omega
    by_cases hlt : k < L.length
    · have hki : (k : Int) < (L.length : Int) := by omega
      obtain ⟨s, hsk⟩ : ∃ s, L[k]? = some s := ⟨_, List.getElem?_eq_getElem hlt⟩
      obtain ⟨a, rfl, a0, a1, a2⟩ := HX.out k s hsk
      replace a0 := (HBw.out.cell (World.block_lt_of_cell? _ _ a0)).trans a0
      replace a1 := (HBw.out.cell (World.block_lt_of_cell? _ _ a1)).trans a1
      replace a2 := (HBw.out.cell (World.block_lt_of_cell? _ _ a2)).trans a2
      have HT := Lib.hid (filK_succ (fr := fr) hsk)
      have HU : Hid (∀ u ∈ (#[.int .u64 s.slot, .int .u64 s.ballot, .string (strB s.val)] : Array Value).toList, u.oneCell' = true) := Lib.hid (by intro u hu; simp at hu; rcases hu with rfl | rfl | rfl <;> rfl)
      clear hown hbl hsk k0 k1 hfl
      by_cases hfr : fr ≤ s.slot
      · have hT := HT.out
        rw [if_pos hfr] at hT
        have HT1 := Lib.hid hT
        clear hT HT
        go_wp2_with (first
          | (at_builtin; (refine wpList_appS rfl (.tmp 33) (.tmp 39) 46 rfl w2.heap.size 56 i0 _ 3 32 Try.underlying46 hi hz0 hz1 hz2 rfl (by decide) (by decide) rfl rfl rfl rfl HO.out HU.out hk40 HB2.out.size ?_)
             intro g7 cap7 w7 hown7 hg7 hor7
             have HO7 := Lib.hid hown7
             have HG7 := Lib.hid hg7
             clear hown7 hg7 hor7)
          | fail)
        have hb7 := (HB2.out.alloc HB2.out.size (.cells #[.int .u64 s.slot, .int .u64 s.ballot, .string (strB s.val)] 56)).grown HG7.out (by simp; exact Nat.le_succ_of_le HB2.out.size) (fun q hq => (HO.out.lt q hq).1)
        have HB7 := Lib.hid hb7
        clear hb7
        go_roundw
        case rel => exact ⟨k + 1, _, _, by omega, by go_num, by rw [HT1.out, List.length_append]; rfl, by rw [HT1.out, rfC_snoc, List.length_append]; exact HO7.out, HB7.out⟩
        case measure => simp [intOf]; omega
      · have hdf : decide (fr ≤ s.slot) = false := decide_eq_false hfr
        have hT := HT.out
        rw [if_neg hfr] at hT
        have HT1 := Lib.hid hT
        clear hT HT hfr
        go_wp2_with fail
        go_roundw
        case rel => exact ⟨k + 1, o, c, by omega, by go_num, by rw [HT1.out], by rw [HT1.out]; exact HO.out, HB2.out⟩
        case measure => simp [intOf]; omega
    · have hkl : k = L.length := by omega
      rw [hkl, filK_all] at HO ⊢
      have hkd : decide ((L.length : Int) < (L.length : Int)) = false := decide_eq_false (by omega)
      have z0 : wr.frozen? ⟨w.heap.size + 1, 0, none⟩ = false := by simp [World.frozen?, k1]
      have z1 : wr.frozen? ⟨w.heap.size + 1, 1, none⟩ = false := by simp [World.frozen?, k1]
      have z2 : wr.frozen? ⟨w.heap.size + 1, 2, none⟩ = false := by simp [World.frozen?, k1]
      have d0 : wr.cell? ⟨w.heap.size + 1, 0, none⟩ = some (.int .u64 0) := World.news_of_block k1 0 _ rfl
      have d1 : wr.cell? ⟨w.heap.size + 1, 1, none⟩ = some (.int .u64 0) := World.news_of_block k1 1 _ rfl
      have d2 : wr.cell? ⟨w.heap.size + 1, 2, none⟩ = some (.slice none 0 0) := World.news_of_block k1 2 _ rfl
      have b1 := heap_setCell_same _ (w.heap.size + 1) 0 _ _ (.int .u64 b) k1
      have b2 := heap_setCell_same _ (w.heap.size + 1) 1 _ _ (.int .u64 lo) b1
      have b3 := heap_setCell_same _ (w.heap.size + 1) 2 _ _ (.slice vo L.length vc) b2
      have S0 := Lib.hid (World.news_of_block b3 0 _ rfl)
      have S1 := Lib.hid (World.news_of_block b3 1 _ rfl)
      have S2 := Lib.hid (World.news_of_block b3 2 _ rfl)
      clear k0 k1 b1 b2 b3 hown hbl hkl hfl hlt hk
      go_wp2_with fail
      obtain ⟨W4, HW4⟩ : ∃ x, x = ((wr.setCell ⟨w.heap.size + 1, 0, none⟩ (.int .u64 b)).setCell ⟨w.heap.size + 1, 1, none⟩ (.int .u64 lo)).setCell ⟨w.heap.size + 1, 2, none⟩ (.slice vo L.length vc) := ⟨_, rfl⟩
      rw [← HW4] at S0 S1 S2 ⊢
      have s0 : W4.cell? ⟨w.heap.size + 1, 0, none⟩ = some (.int .u64 b) := S0.out
      have s1 : W4.cell? ⟨w.heap.size + 1, 1, none⟩ = some (.int .u64 lo) := S1.out
      have s2 : W4.cell? ⟨w.heap.size + 1, 2, none⟩ = some (.slice vo L.length vc) := S2.out
      refine bodyPost_ret (v := .tuple #[.agg #[.int .u64 b, .int .u64 lo, .slice vo L.length vc], .slice o (L.filter (fun v => decide (fr ≤ v.slot))).length c, .int .i64 0]) (by simp [results, Try.results22, go_sem, s0, s1, s2]) rfl ?_
      subst HW4
      refine ⟨o, c, rfl, (own_keep HO.out (fun q hq => ?_)).weaken (by omega), ((HBw.out.setCell (by simp) _).setCell (by simp) _).setCell (by simp) _⟩
      have := (HO.out.lt q hq).1
      repeat rw [Below.heap_setCell _ _ _ _ (by simp; omega)]
end Go.Proofs.Ytjdjfhioobhcjaa
