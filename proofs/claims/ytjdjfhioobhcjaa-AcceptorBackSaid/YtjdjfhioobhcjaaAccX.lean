/-
  The document's acceptor: Forget, Accept.
-/
import Derived.Test.YtjdjfhioobhcjaaAccW
namespace Go.Proofs.Ytjdjfhioobhcjaa
open Go.ChangeShapes Go.WideShapes Go.ChangeAt Go.RowKit Go.Maps Go.Shelf
set_option maxRecDepth 100000

def RetForg (w : World) (p lo : Int) (hs : List Vt) (e : Ending) (w' : World) : Prop := ∃ ao c, e = .returned (rA p lo (.slice ao hs.length c)) ∧ w'.ownsRow w.heap.size 56 3 (.slice ao hs.length c) hs.length (rfC hs) ∧ Below w.heap.size w w'
set_option maxHeartbeats 2000000 in
theorem rforget_old {w : World} {v : Value} {L : List Vt} {p lo fr : Int} (hb : fr ≤ lo) (h : RfL w v L) : Calls Try.prog 26 #[rA p lo v, .int .u64 fr] w fun e w' => e = .returned (rA p lo v) ∧ Below w.heap.size w w' := by
  unfold rA
  obtain ⟨vo, vc, rfl, h1, h2, hx⟩ := h
  clear hx
  go_enter Try.func26, Try.ntmps26
  go_wp2_with fail
  have k1 := heap_alloc_new (w.alloc (.cells #[.int .u64 p, .int .u64 lo, .slice vo L.length vc] 48)) (.cells #[.int .u64 p, .int .u64 lo, .slice vo L.length vc] 48)
  have hs1 : (w.alloc (.cells #[.int .u64 p, .int .u64 lo, .slice vo L.length vc] 48)).heap.size = w.heap.size + 1 := by simp
  rw [hs1] at k1
  have HB : Hid (Below w.heap.size w _) := Lib.hid (((Below.refl w.heap.size w).alloc (Nat.le_refl _) (.cells #[.int .u64 p, .int .u64 lo, .slice vo L.length vc] 48)).alloc (by simp) (.cells #[.int .u64 p, .int .u64 lo, .slice vo L.length vc] 48))
  generalize (w.alloc (.cells #[.int .u64 p, .int .u64 lo, .slice vo L.length vc] 48)).alloc (.cells #[.int .u64 p, .int .u64 lo, .slice vo L.length vc] 48) = W4 at *
  have s0 : W4.cell? ⟨w.heap.size + 1, 0, none⟩ = some (.int .u64 p) := World.news_of_block k1 0 _ rfl
  have s1 : W4.cell? ⟨w.heap.size + 1, 1, none⟩ = some (.int .u64 lo) := World.news_of_block k1 1 _ rfl
  have s2 : W4.cell? ⟨w.heap.size + 1, 2, none⟩ = some (.slice vo L.length vc) := World.news_of_block k1 2 _ rfl
  refine bodyPost_ret (v := .agg #[.int .u64 p, .int .u64 lo, .slice vo L.length vc]) (by simp [results, Try.results26, go_sem, s0, s1, s2]) rfl ?_
  exact ⟨rfl, HB.out⟩
set_option maxHeartbeats 2000000 in
theorem rforget_ok {w : World} {v : Value} {L : List Vt} {b lo fr : Int} (hb : lo < fr) (h : RfL w v L) (hl : L.length ≤ 1000000) : Calls Try.prog 26 #[rA b lo v, .int .u64 fr] w (RetForg w b fr (L.filter (fun v => decide (fr ≤ v.slot)))) := by
  unfold rA
  have hdp : decide (fr ≤ lo) = false := decide_eq_false (by omega)
  have H := Lib.hid h
  obtain ⟨vo, vc, rfl, h1, h2, hx⟩ := h
  have HX := Lib.hid hx
  clear hx hb
  obtain ⟨i0, hi, hz0, hz1, hz2⟩ := info_parts Try.rvInfo
  go_enter Try.func26, Try.ntmps26
  go_wp2_with fail
  have k1 := heap_alloc_new (w.alloc (.cells #[.int .u64 b, .int .u64 lo, .slice vo L.length vc] 48)) (.cells #[.int .u64 0, .int .u64 0, .slice none 0 0] 48)
  have k0 := (Below.heap_alloc (w.alloc (.cells #[.int .u64 b, .int .u64 lo, .slice vo L.length vc] 48)) (.cells #[.int .u64 0, .int .u64 0, .slice none 0 0] 48) w.heap.size (by simp)).trans (heap_alloc_new w (.cells #[.int .u64 b, .int .u64 lo, .slice vo L.length vc] 48))
  have hs2 : ((w.alloc (.cells #[.int .u64 b, .int .u64 lo, .slice vo L.length vc] 48)).alloc (.cells #[.int .u64 0, .int .u64 0, .slice none 0 0] 48)).heap.size = w.heap.size + 2 := by simp
  have hs1 : (w.alloc (.cells #[.int .u64 b, .int .u64 lo, .slice vo L.length vc] 48)).heap.size = w.heap.size + 1 := by simp
  rw [hs1] at k1
  have HB : Hid (Below w.heap.size w _) := Lib.hid (((Below.refl w.heap.size w).alloc (Nat.le_refl _) (.cells #[.int .u64 b, .int .u64 lo, .slice vo L.length vc] 48)).alloc (by simp) (.cells #[.int .u64 0, .int .u64 0, .slice none 0 0] 48))
  generalize (w.alloc (.cells #[.int .u64 b, .int .u64 lo, .slice vo L.length vc] 48)).alloc (.cells #[.int .u64 0, .int .u64 0, .slice none 0 0] 48) = w2 at *
  have HK0 := Lib.hid k0
  have HK1 := Lib.hid k1
  clear k0 k1 hs1
  go_loopw [6, 5] (fun i ov wr => ∃ (k : Nat) (o : Option Addr) (c : Nat), k ≤ L.length ∧ i = .int .i64 k ∧ ov = .slice o (filK fr L k).length c ∧ wr.ownsRow w2.heap.size 56 3 (.slice o (filK fr L k).length c) (filK fr L k).length (rfC (filK fr L k)) ∧ Below w2.heap.size w2 wr) (fun i _ _ => L.length - (intOf i).toNat)
  case atStart => exact ⟨0, none, 0, by omega, rfl, rfl, by simpa [rfC, filK] using World.ownsRow_nil _ _ _ _, Below.refl _ _⟩
  case round =>
    obtain ⟨k, o, c, hk, rfl, rfl, hown, hbl⟩ := hrel
    have HO := Lib.hid hown
    have HB2 := Lib.hid hbl
    have HBw := Lib.hid (HB.out.trans (hbl.mono (by omega)))
    have k0 := (hbl.block w.heap.size (by omega)).trans HK0.out
    have k1 := (hbl.block (w.heap.size + 1) (by omega)).trans HK1.out
    have e0 : wr.cell? ⟨w.heap.size, 0, none⟩ = some (.int .u64 b) := World.news_of_block k0 0 _ rfl
    have e1 : wr.cell? ⟨w.heap.size, 1, none⟩ = some (.int .u64 lo) := World.news_of_block k0 1 _ rfl
    have e2 : wr.cell? ⟨w.heap.size, 2, none⟩ = some (.slice vo L.length vc) := World.news_of_block k0 2 _ rfl
    have hfl := filK_len fr L k
    have hk40 : (filK fr L k).length ≤ 1099511627776 := by omega
    by_cases hlt : k < L.length
    · have hki : (k : Int) < (L.length : Int) := by omega
      obtain ⟨s, hsk⟩ : ∃ s, L[k]? = some s := ⟨_, List.getElem?_eq_getElem hlt⟩
      obtain ⟨a, rfl, a0, a1, a2⟩ := HX.out k s hsk
      replace a0 := (HBw.out.cell (World.block_lt_of_cell? _ _ a0)).trans a0
      replace a1 := (HBw.out.cell (World.block_lt_of_cell? _ _ a1)).trans a1
      replace a2 := (HBw.out.cell (World.block_lt_of_cell? _ _ a2)).trans a2
      have HT := Lib.hid (filK_succ (fr := fr) hsk)
      have HU : Hid (∀ u ∈ (#[.int .u64 s.slot, .int .u64 s.ballot, .string (strB s.val)] : Array Value).toList, u.oneCell' = true) := Lib.hid (by intro u hu; simp at hu; rcases hu with rfl | rfl | rfl <;> rfl)
      clear hown hbl hsk k0 k1 hfl
      by_cases hfr : fr ≤ s.slot
      · have hT := HT.out
        rw [if_pos hfr] at hT
        have HT1 := Lib.hid hT
        clear hT HT
        go_wp2_with (first
          | (at_builtin; (refine wpList_appS rfl (.tmp 27) (.tmp 33) 46 rfl w2.heap.size 56 i0 _ 3 32 Try.underlying46 hi hz0 hz1 hz2 rfl (by decide) (by decide) rfl rfl rfl rfl HO.out HU.out hk40 HB2.out.size ?_)
             intro g7 cap7 w7 hown7 hg7 hor7
             have HO7 := Lib.hid hown7
             have HG7 := Lib.hid hg7
             clear hown7 hg7 hor7)
          | fail)
        have hb7 := (HB2.out.alloc HB2.out.size (.cells #[.int .u64 s.slot, .int .u64 s.ballot, .string (strB s.val)] 56)).grown HG7.out (by simp; exact Nat.le_succ_of_le HB2.out.size) (fun q hq => (HO.out.lt q hq).1)
        have HB7 := Lib.hid hb7
        clear hb7
        go_roundw
        case rel => exact ⟨k + 1, _, _, by omega, by go_num, by rw [HT1.out, List.length_append]; rfl, by rw [HT1.out, rfC_snoc, List.length_append]; exact HO7.out, HB7.out⟩
        case measure => simp [intOf]; omega
      · have hdf : decide (fr ≤ s.slot) = false := decide_eq_false hfr
        have hT := HT.out
        rw [if_neg hfr] at hT
        have HT1 := Lib.hid hT
        clear hT HT hfr
        go_wp2_with fail
        go_roundw
        case rel => exact ⟨k + 1, o, c, by omega, by go_num, by rw [HT1.out], by rw [HT1.out]; exact HO.out, HB2.out⟩
        case measure => simp [intOf]; omega
    · have hkl : k = L.length := by omega
      rw [hkl, filK_all] at HO ⊢
      have hkd : decide ((L.length : Int) < (L.length : Int)) = false := decide_eq_false (by omega)
      have z0 : wr.frozen? ⟨w.heap.size + 1, 0, none⟩ = false := by simp [World.frozen?, k1]
      have z1 : wr.frozen? ⟨w.heap.size + 1, 1, none⟩ = false := by simp [World.frozen?, k1]
      have z2 : wr.frozen? ⟨w.heap.size + 1, 2, none⟩ = false := by simp [World.frozen?, k1]
      have d0 : wr.cell? ⟨w.heap.size + 1, 0, none⟩ = some (.int .u64 0) := World.news_of_block k1 0 _ rfl
      have d1 : wr.cell? ⟨w.heap.size + 1, 1, none⟩ = some (.int .u64 0) := World.news_of_block k1 1 _ rfl
      have d2 : wr.cell? ⟨w.heap.size + 1, 2, none⟩ = some (.slice none 0 0) := World.news_of_block k1 2 _ rfl
      have b1 := heap_setCell_same _ (w.heap.size + 1) 0 _ _ (.int .u64 b) k1
      have b2 := heap_setCell_same _ (w.heap.size + 1) 1 _ _ (.int .u64 fr) b1
      have b3 := heap_setCell_same _ (w.heap.size + 1) 2 _ _ (.slice o (L.filter (fun v => decide (fr ≤ v.slot))).length c) b2
      have S0 := Lib.hid (World.news_of_block b3 0 _ rfl)
      have S1 := Lib.hid (World.news_of_block b3 1 _ rfl)
      have S2 := Lib.hid (World.news_of_block b3 2 _ rfl)
      clear k0 k1 b1 b2 b3 hown hbl hkl hfl hlt hk
      go_wp2_with fail
      obtain ⟨W4, HW4⟩ : ∃ x, x = ((wr.setCell ⟨w.heap.size + 1, 0, none⟩ (.int .u64 b)).setCell ⟨w.heap.size + 1, 1, none⟩ (.int .u64 fr)).setCell ⟨w.heap.size + 1, 2, none⟩ (.slice o (L.filter (fun v => decide (fr ≤ v.slot))).length c) := ⟨_, rfl⟩
      rw [← HW4] at S0 S1 S2 ⊢
      have s0 : W4.cell? ⟨w.heap.size + 1, 0, none⟩ = some (.int .u64 b) := S0.out
      have s1 : W4.cell? ⟨w.heap.size + 1, 1, none⟩ = some (.int .u64 fr) := S1.out
      have s2 : W4.cell? ⟨w.heap.size + 1, 2, none⟩ = some (.slice o (L.filter (fun v => decide (fr ≤ v.slot))).length c) := S2.out
      refine bodyPost_ret (v := .agg #[.int .u64 b, .int .u64 fr, .slice o (L.filter (fun v => decide (fr ≤ v.slot))).length c]) (by simp [results, Try.results26, go_sem, s0, s1, s2]) rfl ?_
      subst HW4
      refine ⟨o, c, rfl, (own_keep HO.out (fun q hq => ?_)).weaken (by omega), ((HBw.out.setCell (by simp) _).setCell (by simp) _).setCell (by simp) _⟩
      have := (HO.out.lt q hq).1
      repeat rw [Below.heap_setCell _ _ _ _ (by simp; omega)]
end Go.Proofs.Ytjdjfhioobhcjaa
