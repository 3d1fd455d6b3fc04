/-
  The document's acceptor: Accept.
-/
import Derived.Test.YtjdjfhioobhcjaaAccW
namespace Go.Proofs.Ytjdjfhioobhcjaa
open Go.ChangeShapes Go.WideShapes Go.ChangeAt Go.RowKit Go.Maps Go.Shelf
set_option maxRecDepth 100000
set_option linter.unusedVariables false
set_option linter.unusedSimpArgs false

def RetForg (w : World) (p lo : Int) (hs : List Vt) (e : Ending) (w' : World) : Prop := ∃ ao c, e = .returned (rA p lo (.slice ao hs.length c)) ∧ w'.ownsRow w.heap.size 56 3 (.slice ao hs.length c) hs.length (rfC hs) ∧ Below w.heap.size w w'
set_option maxHeartbeats 2000000 in
theorem rforget_old {w : World} {v : Value} {L : List Vt} {p lo fr : Int} (hb : fr ≤ lo) (h : RfL w v L) : Calls Try.prog 26 #[rA p lo v, .int .u64 fr] w fun e w' => e = .returned (rA p lo v) ∧ Below w.heap.size w w' := by
  unfold rA
  obtain ⟨vo, vc, rfl, h1, h2, hx⟩ := h
  clear hx
  go_enter Try.func26, Try.ntmps26
  go_wp2_with fail
  have k1 := heap_alloc_new (w.alloc (.cells #[.int .u64 p, .int .u64 lo, .slice vo L.length vc] 48)) (.cells #[.int .u64 p, .int .u64 lo, .slice vo L.length vc] 48)
  have hs1 : (w.alloc (.cells #[.int .u64 p, .int .u64 lo, .slice vo L.length vc] 48)).heap.size = w.heap.size + 1 := by simp
  rw [hs1] at k1
  have HB : Hid (Below w.heap.size w _) := Lib.hid (((Below.refl w.heap.size w).alloc (Nat.le_refl _) (.cells #[.int .u64 p, .int .u64 lo, .slice vo L.length vc] 48)).alloc (by simp) (.cells #[.int .u64 p, .int .u64 lo, .slice vo L.length vc] 48))
  generalize (w.alloc (.cells #[.int .u64 p, .int .u64 lo, .slice vo L.length vc] 48)).alloc (.cells #[.int .u64 p, .int .u64 lo, .slice vo L.length vc] 48) = W4 at *
  have s0 : W4.cell? ⟨w.heap.size + 1, 0, none⟩ = some (.int .u64 p) := World.news_of_block k1 0 _ rfl
  have s1 : W4.cell? ⟨w.heap.size + 1, 1, none⟩ = some (.int .u64 lo) := World.news_of_block k1 1 _ rfl
  have s2 : W4.cell? ⟨w.heap.size + 1, 2, none⟩ = some (.slice vo L.length vc) := World.news_of_block k1 2 _ rfl
  refine bodyPost_ret (v := .agg #[.int .u64 p, .int .u64 lo, .slice vo L.length vc]) (by simp [results, Try.results26, go_sem, s0, s1, s2]) rfl ?_
  exact ⟨rfl, HB.out⟩
set_option maxHeartbeats 2000000 in
theorem rforget_ok {w : World} {v : Value} {L : List Vt} {b lo fr : Int} (hb : lo < fr) (h : RfL w v L) (hl : L.length ≤ 1000000) : Calls Try.prog 26 #[rA b lo v, .int .u64 fr] w (RetForg w b fr (L.filter (fun v => decide (fr ≤ v.slot)))) := by
  unfold rA
  have hdp : decide (fr ≤ lo) = false := decide_eq_false (by omega)
  have H := Lib.hid h
  obtain ⟨vo, vc, rfl, h1, h2, hx⟩ := h
  have HX := Lib.hid hx
  clear hx hb
  obtain ⟨i0, hi, hz0, hz1, hz2⟩ := info_parts Try.rvInfo
  go_enter Try.func26, Try.ntmps26
  go_wp2_with fail
  have k1 := heap_alloc_new (w.alloc (.cells #[.int .u64 b, .int .u64 lo, .slice vo L.length vc] 48)) (.cells #[.int .u64 0, .int .u64 0, .slice none 0 0] 48)
  have k0 := (Below.heap_alloc (w.alloc (.cells #[.int .u64 b, .int .u64 lo, .slice vo L.length vc] 48)) (.cells #[.int .u64 0, .int .u64 0, .slice none 0 0] 48) w.heap.size (by simp)).trans (heap_alloc_new w (.cells #[.int .u64 b, .int .u64 lo, .slice vo L.length vc] 48))
  have hs2 : ((w.alloc (.cells #[.int .u64 b, .int .u64 lo, .slice vo L.length vc] 48)).alloc (.cells #[.int .u64 0, .int .u64 0, .slice none 0 0] 48)).heap.size = w.heap.size + 2 := by simp
  have hs1 : (w.alloc (.cells #[.int .u64 b, .int .u64 lo, .slice vo L.length vc] 48)).heap.size = w.heap.size + 1 := by simp
  rw [hs1] at k1
  have HB : Hid (Below w.heap.size w _) := Lib.hid (((Below.refl w.heap.size w).alloc (Nat.le_refl _) (.cells #[.int .u64 b, .int .u64 lo, .slice vo L.length vc] 48)).alloc (by simp) (.cells #[.int .u64 0, .int .u64 0, .slice none 0 0] 48))
  generalize (w.alloc (.cells #[.int .u64 b, .int .u64 lo, .slice vo L.length vc] 48)).alloc (.cells #[.int .u64 0, .int .u64 0, .slice none 0 0] 48) = w2 at *
  have HK0 := Lib.hid k0
  have HK1 := Lib.hid k1
  clear k0 k1 hs1
  go_loopw [6, 5] (fun i ov wr => ∃ (k : Nat) (o : Option Addr) (c : Nat), k ≤ L.length ∧ i = .int .i64 k ∧ ov = .slice o (filK fr L k).length c ∧ wr.ownsRow w2.heap.size 56 3 (.slice o (filK fr L k).length c) (filK fr L k).length (rfC (filK fr L k)) ∧ Below w2.heap.size w2 wr) (fun i _ _ => L.length - (intOf i).toNat)
  case atStart => exact ⟨0, none, 0, by omega, rfl, rfl, by simpa [rfC, filK] using World.ownsRow_nil _ _ _ _, Below.refl _ _⟩
  case round =>
    obtain ⟨k, o, c, hk, rfl, rfl, hown, hbl⟩ := hrel
    have HO := Lib.hid hown
    have HB2 := Lib.hid hbl
    have HBw := Lib.hid (HB.out.trans (hbl.mono (by omega)))
    have k0 := (hbl.block w.heap.size (by omega)).trans HK0.out
    have k1 := (hbl.block (w.heap.size + 1) (by omega)).trans HK1.out
    have e0 : wr.cell? ⟨w.heap.size, 0, none⟩ = some (.int .u64 b) := World.news_of_block k0 0 _ rfl
    have e1 : wr.cell? ⟨w.heap.size, 1, none⟩ = some (.int .u64 lo) := World.news_of_block k0 1 _ rfl
    have e2 : wr.cell? ⟨w.heap.size, 2, none⟩ = some (.slice vo L.length vc) := World.news_of_block k0 2 _ rfl
    have hfl := filK_len fr L k
    have hk40 : (filK fr L k).length ≤ 1099511627776 := by omega
    by_cases hlt : k < L.length
    · have hki : (k : Int) < (L.length : Int) := by omega
      obtain ⟨s, hsk⟩ : ∃ s, L[k]? = some s := ⟨_, List.getElem?_eq_getElem hlt⟩
      obtain ⟨a, rfl, a0, a1, a2⟩ := HX.out k s hsk
      replace a0 := (HBw.out.cell (World.block_lt_of_cell? _ _ a0)).trans a0
      replace a1 := (HBw.out.cell (World.block_lt_of_cell? _ _ a1)).trans a1
      replace a2 := (HBw.out.cell (World.block_lt_of_cell? _ _ a2)).trans a2
      have HT := Lib.hid (filK_succ (fr := fr) hsk)
      have HU : Hid (∀ u ∈ (#[.int .u64 s.slot, .int .u64 s.ballot, .string (strB s.val)] : Array Value).toList, u.oneCell' = true) := Lib.hid (by intro u hu; simp at hu; rcases hu with rfl | rfl | rfl <;> rfl)
      clear hown hbl hsk k0 k1 hfl
      by_cases hfr : fr ≤ s.slot
      · have hT := HT.out
        rw [if_pos hfr] at hT
        have HT1 := Lib.hid hT
        clear hT HT
        go_wp2_with (first
          | (at_builtin; (refine wpList_appS rfl (.tmp 27) (.tmp 33) 46 rfl w2.heap.size 56 i0 _ 3 32 Try.underlying46 hi hz0 hz1 hz2 rfl (by decide) (by decide) rfl rfl rfl rfl HO.out HU.out hk40 HB2.out.size ?_)
             intro g7 cap7 w7 hown7 hg7 hor7
             have HO7 := Lib.hid hown7
             have HG7 := Lib.hid hg7
             clear hown7 hg7 hor7)
          | fail)
        have hb7 := (HB2.out.alloc HB2.out.size (.cells #[.int .u64 s.slot, .int .u64 s.ballot, .string (strB s.val)] 56)).grown HG7.out (by simp; exact Nat.le_succ_of_le HB2.out.size) (fun q hq => (HO.out.lt q hq).1)
        have HB7 := Lib.hid hb7
        clear hb7
        go_roundw
        case rel => exact ⟨k + 1, _, _, by omega, by go_num, by rw [HT1.out, List.length_append]; rfl, by rw [HT1.out, rfC_snoc, List.length_append]; exact HO7.out, HB7.out⟩
        case measure => simp [intOf]; omega
      · have hdf : decide (fr ≤ s.slot) = false := decide_eq_false hfr
        have hT := HT.out
        rw [if_neg hfr] at hT
        have HT1 := Lib.hid hT
        clear hT HT hfr
        go_wp2_with fail
        go_roundw
        case rel => exact ⟨k + 1, o, c, by omega, by go_num, by rw [HT1.out], by rw [HT1.out]; exact HO.out, HB2.out⟩
        case measure => simp [intOf]; omega
    · have hkl : k = L.length := by omega
      rw [hkl, filK_all] at HO ⊢
      have hkd : decide ((L.length : Int) < (L.length : Int)) = false := decide_eq_false (by omega)
      have z0 : wr.frozen? ⟨w.heap.size + 1, 0, none⟩ = false := by simp [World.frozen?, k1]
      have z1 : wr.frozen? ⟨w.heap.size + 1, 1, none⟩ = false := by simp [World.frozen?, k1]
      have z2 : wr.frozen? ⟨w.heap.size + 1, 2, none⟩ = false := by simp [World.frozen?, k1]
      have d0 : wr.cell? ⟨w.heap.size + 1, 0, none⟩ = some (.int .u64 0) := World.news_of_block k1 0 _ rfl
      have d1 : wr.cell? ⟨w.heap.size + 1, 1, none⟩ = some (.int .u64 0) := World.news_of_block k1 1 _ rfl
      have d2 : wr.cell? ⟨w.heap.size + 1, 2, none⟩ = some (.slice none 0 0) := World.news_of_block k1 2 _ rfl
      have b1 := heap_setCell_same _ (w.heap.size + 1) 0 _ _ (.int .u64 b) k1
      have b2 := heap_setCell_same _ (w.heap.size + 1) 1 _ _ (.int .u64 fr) b1
      have b3 := heap_setCell_same _ (w.heap.size + 1) 2 _ _ (.slice o (L.filter (fun v => decide (fr ≤ v.slot))).length c) b2
      have S0 := Lib.hid (World.news_of_block b3 0 _ rfl)
      have S1 := Lib.hid (World.news_of_block b3 1 _ rfl)
      have S2 := Lib.hid (World.news_of_block b3 2 _ rfl)
      clear k0 k1 b1 b2 b3 hown hbl hkl hfl hlt hk
      go_wp2_with fail
      obtain ⟨W4, HW4⟩ : ∃ x, x = ((wr.setCell ⟨w.heap.size + 1, 0, none⟩ (.int .u64 b)).setCell ⟨w.heap.size + 1, 1, none⟩ (.int .u64 fr)).setCell ⟨w.heap.size + 1, 2, none⟩ (.slice o (L.filter (fun v => decide (fr ≤ v.slot))).length c) := ⟨_, rfl⟩
      rw [← HW4] at S0 S1 S2 ⊢
      have s0 : W4.cell? ⟨w.heap.size + 1, 0, none⟩ = some (.int .u64 b) := S0.out
      have s1 : W4.cell? ⟨w.heap.size + 1, 1, none⟩ = some (.int .u64 fr) := S1.out
      have s2 : W4.cell? ⟨w.heap.size + 1, 2, none⟩ = some (.slice o (L.filter (fun v => decide (fr ≤ v.slot))).length c) := S2.out
      refine bodyPost_ret (v := .agg #[.int .u64 b, .int .u64 fr, .slice o (L.filter (fun v => decide (fr ≤ v.slot))).length c]) (by simp [results, Try.results26, go_sem, s0, s1, s2]) rfl ?_
      subst HW4
      refine ⟨o, c, rfl, (own_keep HO.out (fun q hq => ?_)).weaken (by omega), ((HBw.out.setCell (by simp) _).setCell (by simp) _).setCell (by simp) _⟩
      have := (HO.out.lt q hq).1
      repeat rw [Below.heap_setCell _ _ _ _ (by simp; omega)]
end Go.Proofs.Ytjdjfhioobhcjaa

namespace Go.Proofs.Ytjdjfhioobhcjaa
open Go.ChangeShapes Go.WideShapes Go.ChangeAt Go.RowKit Go.Maps Go.Shelf
set_option maxRecDepth 100000
set_option linter.unusedVariables false
set_option linter.unusedSimpArgs false

set_option maxHeartbeats 2000000 in
theorem racc_old {w : World} {v : Value} {L : List Vt} {p lo : Int} {x : Vt} (hb : x.ballot < p) (h : RfL w v L) : Calls Try.prog 25 #[rA p lo v, .agg #[.int .u64 x.slot, .int .u64 x.ballot, .string (strB x.val)]] w fun e w' => e = .returned (.tuple #[rA p lo v, .int .i64 32]) ∧ Below w.heap.size w w' := by
  unfold rA
  obtain ⟨vo, vc, rfl, h1, h2, hx⟩ := h
  clear hx
  go_enter Try.func25, Try.ntmps25
  go_wp2_with fail
  have k1 := heap_alloc_new ((w.alloc (.cells #[.int .u64 p, .int .u64 lo, .slice vo L.length vc] 48)).alloc (.cells #[.int .u64 x.slot, .int .u64 x.ballot, .string (strB x.val)] 56)) (.cells #[.int .u64 p, .int .u64 lo, .slice vo L.length vc] 48)
  have hs1 : ((w.alloc (.cells #[.int .u64 p, .int .u64 lo, .slice vo L.length vc] 48)).alloc (.cells #[.int .u64 x.slot, .int .u64 x.ballot, .string (strB x.val)] 56)).heap.size = w.heap.size + 2 := by simp
  rw [hs1] at k1
  have HB : Hid (Below w.heap.size w _) := Lib.hid ((((Below.refl w.heap.size w).alloc (Nat.le_refl _) (.cells #[.int .u64 p, .int .u64 lo, .slice vo L.length vc] 48)).alloc (by simp) (.cells #[.int .u64 x.slot, .int .u64 x.ballot, .string (strB x.val)] 56)).alloc (by simp; omega) (.cells #[.int .u64 p, .int .u64 lo, .slice vo L.length vc] 48))
  generalize ((w.alloc (.cells #[.int .u64 p, .int .u64 lo, .slice vo L.length vc] 48)).alloc (.cells #[.int .u64 x.slot, .int .u64 x.ballot, .string (strB x.val)] 56)).alloc (.cells #[.int .u64 p, .int .u64 lo, .slice vo L.length vc] 48) = W4 at *
  have s0 : W4.cell? ⟨w.heap.size + 2, 0, none⟩ = some (.int .u64 p) := World.news_of_block k1 0 _ rfl
  have s1 : W4.cell? ⟨w.heap.size + 2, 1, none⟩ = some (.int .u64 lo) := World.news_of_block k1 1 _ rfl
  have s2 : W4.cell? ⟨w.heap.size + 2, 2, none⟩ = some (.slice vo L.length vc) := World.news_of_block k1 2 _ rfl
  refine bodyPost_ret (v := .tuple #[.agg #[.int .u64 p, .int .u64 lo, .slice vo L.length vc], .int .i64 32]) (by simp [results, Try.results25, go_sem, s0, s1, s2]) rfl ?_
  exact ⟨rfl, HB.out⟩
set_option maxHeartbeats 2000000 in
theorem racc_range {w : World} {v : Value} {L : List Vt} {p lo : Int} {x : Vt} (hb : p ≤ x.ballot) (hlo : x.slot < lo) (h : RfL w v L) : Calls Try.prog 25 #[rA p lo v, .agg #[.int .u64 x.slot, .int .u64 x.ballot, .string (strB x.val)]] w fun e w' => e = .returned (.tuple #[rA p lo v, .int .i64 15]) ∧ Below w.heap.size w w' := by
  unfold rA
  have hdp : decide (x.ballot < p) = false := decide_eq_false (by omega)
  clear hb
  obtain ⟨vo, vc, rfl, h1, h2, hx⟩ := h
  clear hx
  go_enter Try.func25, Try.ntmps25
  go_wp2_with fail
  have k1 := heap_alloc_new ((w.alloc (.cells #[.int .u64 p, .int .u64 lo, .slice vo L.length vc] 48)).alloc (.cells #[.int .u64 x.slot, .int .u64 x.ballot, .string (strB x.val)] 56)) (.cells #[.int .u64 p, .int .u64 lo, .slice vo L.length vc] 48)
  have hs1 : ((w.alloc (.cells #[.int .u64 p, .int .u64 lo, .slice vo L.length vc] 48)).alloc (.cells #[.int .u64 x.slot, .int .u64 x.ballot, .string (strB x.val)] 56)).heap.size = w.heap.size + 2 := by simp
  rw [hs1] at k1
  have HB : Hid (Below w.heap.size w _) := Lib.hid ((((Below.refl w.heap.size w).alloc (Nat.le_refl _) (.cells #[.int .u64 p, .int .u64 lo, .slice vo L.length vc] 48)).alloc (by simp) (.cells #[.int .u64 x.slot, .int .u64 x.ballot, .string (strB x.val)] 56)).alloc (by simp; omega) (.cells #[.int .u64 p, .int .u64 lo, .slice vo L.length vc] 48))
  generalize ((w.alloc (.cells #[.int .u64 p, .int .u64 lo, .slice vo L.length vc] 48)).alloc (.cells #[.int .u64 x.slot, .int .u64 x.ballot, .string (strB x.val)] 56)).alloc (.cells #[.int .u64 p, .int .u64 lo, .slice vo L.length vc] 48) = W4 at *
  have s0 : W4.cell? ⟨w.heap.size + 2, 0, none⟩ = some (.int .u64 p) := World.news_of_block k1 0 _ rfl
  have s1 : W4.cell? ⟨w.heap.size + 2, 1, none⟩ = some (.int .u64 lo) := World.news_of_block k1 1 _ rfl
  have s2 : W4.cell? ⟨w.heap.size + 2, 2, none⟩ = some (.slice vo L.length vc) := World.news_of_block k1 2 _ rfl
  refine bodyPost_ret (v := .tuple #[.agg #[.int .u64 p, .int .u64 lo, .slice vo L.length vc], .int .i64 15]) (by simp [results, Try.results25, go_sem, s0, s1, s2]) rfl ?_
  exact ⟨rfl, HB.out⟩

theorem insS_in {v x : Vt} {l : List Vt} (h : v.slot ≤ x.slot) : insS v (false, l) x = (true, if x.slot = v.slot then l ++ [v] else l ++ [v] ++ [x]) := by
  unfold insS
  by_cases e : x.slot = v.slot <;> simp [e, h]
theorem insS_no {v x : Vt} {l : List Vt} {b : Bool} (h : b = true ∨ ¬ v.slot ≤ x.slot) : insS v (b, l) x = (b, if x.slot = v.slot then l else l ++ [x]) := by
  unfold insS
  rcases h with h | h
  · subst h; by_cases e : x.slot = v.slot <;> simp [e]
  · by_cases e : x.slot = v.slot
    · exact absurd (by omega) h
    · simp [e, h]
set_option maxHeartbeats 2000000 in
theorem racc_ok {w : World} {v : Value} {L : List Vt} {p lo : Int} {x : Vt} (hb : p ≤ x.ballot) (hlo : lo ≤ x.slot) (h : RfL w v L) (hl : L.length ≤ 1000000) : Calls Try.prog 25 #[rA p lo v, .agg #[.int .u64 x.slot, .int .u64 x.ballot, .string (strB x.val)]] w fun e w' =>
    ∃ ao c, e = .returned (.tuple #[rA x.ballot lo (.slice ao (insF x L).length c), .int .i64 0]) ∧ w'.ownsRow w.heap.size 56 3 (.slice ao (insF x L).length c) (insF x L).length (rfC (insF x L)) ∧ Below w.heap.size w w' := by
  unfold rA
  have hdp : decide (x.ballot < p) = false := decide_eq_false (by omega)
  have hdl : decide (x.slot < lo) = false := decide_eq_false (by omega)
  have H := Lib.hid h
  obtain ⟨vo, vc, rfl, h1, h2, hx⟩ := h
  have HX := Lib.hid hx
  clear hx hb hlo
  obtain ⟨i0, hi, hz0, hz1, hz2⟩ := info_parts Try.rvInfo
  go_enter Try.func25, Try.ntmps25
  go_wp2_with fail
  have hq1 := heap_alloc_new (w.alloc (.cells #[.int .u64 p, .int .u64 lo, .slice vo L.length vc] 48)) (.cells #[.int .u64 x.slot, .int .u64 x.ballot, .string (strB x.val)] 56)
  rw [show (w.alloc (.cells #[.int .u64 p, .int .u64 lo, .slice vo L.length vc] 48)).heap.size = w.heap.size + 1 from by simp] at hq1
  have k2 := heap_alloc_new ((w.alloc (.cells #[.int .u64 p, .int .u64 lo, .slice vo L.length vc] 48)).alloc (.cells #[.int .u64 x.slot, .int .u64 x.ballot, .string (strB x.val)] 56)) (.cells #[.int .u64 0, .int .u64 0, .slice none 0 0] 48)
  have k1 := (Below.heap_alloc ((w.alloc (.cells #[.int .u64 p, .int .u64 lo, .slice vo L.length vc] 48)).alloc (.cells #[.int .u64 x.slot, .int .u64 x.ballot, .string (strB x.val)] 56)) (.cells #[.int .u64 0, .int .u64 0, .slice none 0 0] 48) (w.heap.size + 1) (by simp)).trans hq1
  have k0 := (Below.heap_alloc ((w.alloc (.cells #[.int .u64 p, .int .u64 lo, .slice vo L.length vc] 48)).alloc (.cells #[.int .u64 x.slot, .int .u64 x.ballot, .string (strB x.val)] 56)) (.cells #[.int .u64 0, .int .u64 0, .slice none 0 0] 48) w.heap.size (by simp; omega)).trans ((Below.heap_alloc (w.alloc (.cells #[.int .u64 p, .int .u64 lo, .slice vo L.length vc] 48)) (.cells #[.int .u64 x.slot, .int .u64 x.ballot, .string (strB x.val)] 56) w.heap.size (by simp)).trans (heap_alloc_new w (.cells #[.int .u64 p, .int .u64 lo, .slice vo L.length vc] 48)))
  have hs3 : (((w.alloc (.cells #[.int .u64 p, .int .u64 lo, .slice vo L.length vc] 48)).alloc (.cells #[.int .u64 x.slot, .int .u64 x.ballot, .string (strB x.val)] 56)).alloc (.cells #[.int .u64 0, .int .u64 0, .slice none 0 0] 48)).heap.size = w.heap.size + 3 := by simp
  have hs2 : ((w.alloc (.cells #[.int .u64 p, .int .u64 lo, .slice vo L.length vc] 48)).alloc (.cells #[.int .u64 x.slot, .int .u64 x.ballot, .string (strB x.val)] 56)).heap.size = w.heap.size + 1 + 1 := by simp
  rw [hs2] at k2
  have HB : Hid (Below w.heap.size w _) := Lib.hid ((((Below.refl w.heap.size w).alloc (Nat.le_refl _) (.cells #[.int .u64 p, .int .u64 lo, .slice vo L.length vc] 48)).alloc (by simp) (.cells #[.int .u64 x.slot, .int .u64 x.ballot, .string (strB x.val)] 56)).alloc (by simp; omega) (.cells #[.int .u64 0, .int .u64 0, .slice none 0 0] 48))
  generalize ((w.alloc (.cells #[.int .u64 p, .int .u64 lo, .slice vo L.length vc] 48)).alloc (.cells #[.int .u64 x.slot, .int .u64 x.ballot, .string (strB x.val)] 56)).alloc (.cells #[.int .u64 0, .int .u64 0, .slice none 0 0] 48) = w2 at *
  have HC : Hid (∀ w' : World, Below w2.heap.size w2 w' → (w'.cell? ⟨w.heap.size, 0, none⟩ = some (.int .u64 p) ∧ w'.cell? ⟨w.heap.size, 1, none⟩ = some (.int .u64 lo) ∧ w'.cell? ⟨w.heap.size, 2, none⟩ = some (.slice vo L.length vc)) ∧
      (w'.cell? ⟨w.heap.size + 1, 0, none⟩ = some (.int .u64 x.slot) ∧ w'.cell? ⟨w.heap.size + 1, 1, none⟩ = some (.int .u64 x.ballot) ∧ w'.cell? ⟨w.heap.size + 1, 2, none⟩ = some (.string (strB x.val))) ∧
      w'.heap[w.heap.size + 1 + 1]? = some (.cells #[.int .u64 0, .int .u64 0, .slice none 0 0] 48) ∧ Below w.heap.size w w') := Lib.hid fun w' hb => by
    have q0 := (hb.block w.heap.size (by omega)).trans k0
    have q1 := (hb.block (w.heap.size + 1) (by omega)).trans k1
    exact ⟨⟨World.news_of_block q0 0 _ rfl, World.news_of_block q0 1 _ rfl, World.news_of_block q0 2 _ rfl⟩, ⟨World.news_of_block q1 0 _ rfl, World.news_of_block q1 1 _ rfl, World.news_of_block q1 2 _ rfl⟩, (hb.block (w.heap.size + 1 + 1) (by omega)).trans k2, HB.out.trans (hb.mono (by omega))⟩
  clear k0 k1 k2 hs2 hq1
  go_loopw [8, 6, 7] (fun i ov bv wr => ∃ (k : Nat) (o : Option Addr) (c : Nat), k ≤ L.length ∧ i = .int .i64 k ∧ ov = .slice o (insK x L k).2.length c ∧ bv = .bool (insK x L k).1 ∧ wr.ownsRow w2.heap.size 56 3 (.slice o (insK x L k).2.length c) (insK x L k).2.length (rfC (insK x L k).2) ∧ Below w2.heap.size w2 wr) (fun i _ _ _ => L.length - (intOf i).toNat)
  case atStart => exact ⟨0, none, 0, by omega, rfl, rfl, rfl, by simpa [rfC, insK] using World.ownsRow_nil _ _ _ _, Below.refl _ _⟩
  case round =>
    obtain ⟨k, o, c, hk, rfl, rfl, rfl, hown, hbl⟩ := hrel
    have HO := Lib.hid hown
    have HB2 := Lib.hid hbl
    obtain ⟨⟨e0, e1, e2⟩, ⟨f0, f1, f2⟩, k2, hbw⟩ := HC.out wr hbl
    have HBw := Lib.hid hbw
    have hil := insK_len x L k
    have hk39 : (insK x L k).2.length ≤ 2000000 := by omega
    have hk40 : (insK x L k).2.length ≤ 1099511627776 := by omega
    by_cases hlt : k < L.length
    · have hki : (k : Int) < (L.length : Int) := by omega
      obtain ⟨s, hsk⟩ : ∃ s, L[k]? = some s := ⟨_, List.getElem?_eq_getElem hlt⟩
      obtain ⟨a, rfl, a0, a1, a2⟩ := HX.out k s hsk
      have HA : Hid (∀ w' : World, Below w2.heap.size w2 w' → w'.cell? (a.add (k * 3)) = some (.int .u64 s.slot) ∧ w'.cell? ⟨(a.add (k * 3)).block, (a.add (k * 3)).off + 1, none⟩ = some (.int .u64 s.ballot) ∧ w'.cell? ⟨(a.add (k * 3)).block, (a.add (k * 3)).off + 2, none⟩ = some (.string (strB s.val))) := Lib.hid fun w' hb => by
        have hbw := (HC.out w' hb).2.2.2
        exact ⟨(hbw.cell (World.block_lt_of_cell? _ _ a0)).trans a0, (hbw.cell (World.block_lt_of_cell? _ _ a1)).trans a1, (hbw.cell (World.block_lt_of_cell? _ _ a2)).trans a2⟩
      have HT := Lib.hid (insK_succ (v := x) hsk)
      have HU : Hid (∀ u ∈ (#[.int .u64 s.slot, .int .u64 s.ballot, .string (strB s.val)] : Array Value).toList, u.oneCell' = true) := Lib.hid (by intro u hu; simp at hu; rcases hu with rfl | rfl | rfl <;> rfl)
      have HUx : Hid (∀ u ∈ (#[.int .u64 x.slot, .int .u64 x.ballot, .string (strB x.val)] : Array Value).toList, u.oneCell' = true) := Lib.hid (by intro u hu; simp at hu; rcases hu with rfl | rfl | rfl <;> rfl)
      clear hown hbl hsk k2 hbw hil a0 a1 a2
      obtain ⟨a0, a1, a2⟩ := HA.out wr HB2.out
      generalize insK x L k = q at *
      obtain ⟨qb, ql⟩ := q
      dsimp only at *
      have hlen' : ql.length + 1 ≤ 1099511627776 := by omega
      by_cases hin : x.slot ≤ s.slot ∧ qb = false
      · obtain ⟨hle, rfl⟩ := hin
        have hT := HT.out
        rw [insS_in hle] at hT
        have HT1 := Lib.hid hT
        clear hT HT
        go_wp2_with fail
        go_quiet (fail)
        go_wp2_with (first
          | (at_builtin; (refine wpList_appS rfl (.tmp 41) (.tmp 43) 46 rfl w2.heap.size 56 i0 _ 3 32 Try.underlying46 hi hz0 hz1 hz2 rfl (by decide) (by decide) rfl rfl rfl rfl HO.out HUx.out hk40 HB2.out.size ?_)
             intro g7 cap7 w7 hown7 hg7 hor7
             have HO7 := Lib.hid hown7
             have HG7 := Lib.hid hg7
             clear hown7 hg7 hor7)
          | fail)
        have hb7 := ((below_drewN HB2.out _).alloc HB2.out.size (.cells #[.int .u64 x.slot, .int .u64 x.ballot, .string (strB x.val)] 56)).grown HG7.out (by simp; exact Nat.le_succ_of_le HB2.out.size) (fun q hq => (HO.out.lt q hq).1)
        have HB7 := Lib.hid hb7
        obtain ⟨⟨e0, e1, e2⟩, ⟨f0, f1, f2⟩, k2, hbw⟩ := HC.out w7 hb7
        obtain ⟨a0, a1, a2⟩ := HA.out w7 hb7
        clear hb7 k2 hbw HG7 HO
        by_cases heq : s.slot = x.slot
        · have hT := HT1.out
          rw [if_pos heq] at hT
          have HTa := Lib.hid (congrArg Prod.fst hT)
          have HTb := Lib.hid (congrArg Prod.snd hT)
          dsimp only at HTa HTb
          have hned : decide (s.slot = x.slot) = true := decide_eq_true heq
          have hne : (s.slot != x.slot) = false := by simp [heq]
          have HEq := Lib.hid heq
          clear hT HT1 heq
          go_quiet (fail)
          go_wp2_with fail
          go_roundw
          case rel => exact ⟨k + 1, _, _, by omega, by go_num, by rw [HTb.out, List.length_append]; rfl, by rw [HTa.out], by rw [HTb.out, rfC_snoc, List.length_append]; exact HO7.out, below_drewN HB7.out _⟩
          case measure => simp [intOf]; omega
        · have hT := HT1.out
          rw [if_neg heq] at hT
          have HTa := Lib.hid (congrArg Prod.fst hT)
          have HTb := Lib.hid (congrArg Prod.snd hT)
          dsimp only at HTa HTb
          have hned : decide (s.slot = x.slot) = false := decide_eq_false heq
          have hne : (s.slot != x.slot) = true := by simp [heq]
          have HEq := Lib.hid heq
          clear hT HT1 heq
          have hk41 : ql.length + 1 ≤ 1099511627776 := by omega
          go_quiet (fail)
          go_wp2_with (first
            | (at_builtin; (refine wpList_appS rfl (.tmp 54) (.tmp 60) 46 rfl w2.heap.size 56 i0 _ 3 32 Try.underlying46 hi hz0 hz1 hz2 rfl (by decide) (by decide) rfl rfl rfl rfl HO7.out HU.out hk41 HB7.out.size ?_)
               intro g8 cap8 w8 hown8 hg8 hor8
               have HO8 := Lib.hid hown8
               have HG8 := Lib.hid hg8
               clear hown8 hg8 hor8)
            | fail)
          have hb8 := ((below_drewN HB7.out _).alloc HB7.out.size (.cells #[.int .u64 s.slot, .int .u64 s.ballot, .string (strB s.val)] 56)).grown HG8.out (by simp; exact Nat.le_succ_of_le HB7.out.size) (fun q hq => (HO7.out.lt q hq).1)
          have HB8 := Lib.hid hb8
          go_roundw
          case rel => exact ⟨k + 1, some ⟨g8, 0, none⟩, cap8, by omega, by go_num, by rw [HTb.out, List.length_append, List.length_append]; rfl, by rw [HTa.out], by rw [HTb.out, rfC_snoc, rfC_snoc, List.length_append, List.length_append]; exact HO8.out, HB8.out⟩
          case measure => simp [intOf]; omega
      · have hor : qb = true ∨ ¬ x.slot ≤ s.slot := by
          cases qb
          · exact Or.inr (fun h => hin ⟨h, rfl⟩)
          · exact Or.inl rfl
        have hT := HT.out
        rw [insS_no hor] at hT
        have HT1 := Lib.hid hT
        clear hT HT hin
        have hcase : decide (x.slot ≤ s.slot) = false ∨ (decide (x.slot ≤ s.slot) = true ∧ qb = true) := by
          by_cases h : x.slot ≤ s.slot
          · rcases hor with e | e
            · exact Or.inr ⟨decide_eq_true h, e⟩
            · exact absurd h e
          · exact Or.inl (decide_eq_false h)
        clear hor
        by_cases heq : s.slot = x.slot
        · have hT := HT1.out
          rw [if_pos heq] at hT
          have HTa := Lib.hid (congrArg Prod.fst hT)
          have HTb := Lib.hid (congrArg Prod.snd hT)
          dsimp only at HTa HTb
          have hned : decide (s.slot = x.slot) = true := decide_eq_true heq
          have hne : (s.slot != x.slot) = false := by simp [heq]
          have HEq := Lib.hid heq
          clear hT HT1 heq
          rcases hcase with hdle | ⟨hdle, rfl⟩
          all_goals
            go_wp2_with fail
            go_quiet (fail)
            go_wp2_with fail
            obtain ⟨⟨e0, e1, e2⟩, ⟨f0, f1, f2⟩, k2, hbw⟩ := HC.out _ (below_drewN HB2.out nq)
            obtain ⟨a0, a1, a2⟩ := HA.out _ (below_drewN HB2.out nq)
            clear k2 hbw
            go_quiet (fail)
            go_wp2_with fail
            go_roundw
            case rel => exact ⟨k + 1, _, _, by omega, by go_num, by rw [HTb.out], by rw [HTa.out], by rw [HTb.out]; exact HO.out, below_drewN HB2.out _⟩
            case measure => simp [intOf]; omega
        · have hT := HT1.out
          rw [if_neg heq] at hT
          have HTa := Lib.hid (congrArg Prod.fst hT)
          have HTb := Lib.hid (congrArg Prod.snd hT)
          dsimp only at HTa HTb
          have hned : decide (s.slot = x.slot) = false := decide_eq_false heq
          have hne : (s.slot != x.slot) = true := by simp [heq]
          have HEq := Lib.hid heq
          clear hT HT1 heq
          rcases hcase with hdle | ⟨hdle, rfl⟩
          all_goals
            go_wp2_with fail
            go_quiet (fail)
            go_wp2_with fail
            obtain ⟨⟨e0, e1, e2⟩, ⟨f0, f1, f2⟩, k2, hbw⟩ := HC.out _ (below_drewN HB2.out nq)
            obtain ⟨a0, a1, a2⟩ := HA.out _ (below_drewN HB2.out nq)
            clear k2 hbw
            go_quiet (fail)
            go_wp2_with (first
              | (at_builtin; (refine wpList_appS rfl (.tmp 54) (.tmp 60) 46 rfl w2.heap.size 56 i0 _ 3 32 Try.underlying46 hi hz0 hz1 hz2 rfl (by decide) (by decide) rfl rfl rfl rfl HO.out HU.out hk40 HB2.out.size ?_)
                 intro g8 cap8 w8 hown8 hg8 hor8
                 have HO8 := Lib.hid hown8
                 have HG8 := Lib.hid hg8
                 clear hown8 hg8 hor8)
              | fail)
            have hb8 := ((below_drewN HB2.out _).alloc HB2.out.size (.cells #[.int .u64 s.slot, .int .u64 s.ballot, .string (strB s.val)] 56)).grown HG8.out (by simp; exact Nat.le_succ_of_le HB2.out.size) (fun q hq => (HO.out.lt q hq).1)
            have HB8 := Lib.hid hb8
            go_roundw
            case rel => exact ⟨k + 1, _, _, by omega, by go_num, by rw [HTb.out, List.length_append]; rfl, by rw [HTa.out], by rw [HTb.out, rfC_snoc, List.length_append]; exact HO8.out, HB8.out⟩
            case measure => simp [intOf]; omega
    · have hkl : k = L.length := by omega
      have HF : Hid (insF x L = if (insK x L L.length).1 then (insK x L L.length).2 else (insK x L L.length).2 ++ [x]) := Lib.hid rfl
      rw [hkl] at HO hk40 ⊢
      have hkd : decide ((L.length : Int) < (L.length : Int)) = false := decide_eq_false (by omega)
      have HUx : Hid (∀ u ∈ (#[.int .u64 x.slot, .int .u64 x.ballot, .string (strB x.val)] : Array Value).toList, u.oneCell' = true) := Lib.hid (by intro u hu; simp at hu; rcases hu with rfl | rfl | rfl <;> rfl)
      clear hown hbl hkl hil hlt hk hbw k2 hk39
      generalize insK x L L.length = q at *
      obtain ⟨qb, ql⟩ := q
      dsimp only at *
      cases qb
      · have hF := HF.out
        rw [if_neg (by decide)] at hF
        have HF1 := Lib.hid hF
        clear hF HF e0 e1 e2 f0 f1 f2
        obtain ⟨⟨e0, e1, e2⟩, ⟨f0, f1, f2⟩, k2, hbw⟩ := HC.out wr HB2.out
        clear k2 hbw
        go_wp2_with (first
          | (at_builtin; (refine wpList_appS rfl (.tmp 64) (.tmp 66) 46 rfl w2.heap.size 56 i0 _ 3 32 Try.underlying46 hi hz0 hz1 hz2 rfl (by decide) (by decide) rfl rfl rfl rfl HO.out HUx.out hk40 HB2.out.size ?_)
             intro g8 cap8 w8 hown8 hg8 hor8
             have HO8 : Hid (w8.ownsRow w2.heap.size 56 3 (.slice (some ⟨g8, 0, none⟩) (ql.length + 1) cap8) (ql.length + 1) (rfC (ql ++ [x]))) := Lib.hid (by rw [rfC_snoc]; exact hown8)
             have hb8 := (HB2.out.alloc HB2.out.size (.cells #[.int .u64 x.slot, .int .u64 x.ballot, .string (strB x.val)] 56)).grown hg8 (by simp; exact Nat.le_succ_of_le HB2.out.size) (fun q hq => (HO.out.lt q hq).1)
             clear hown8 hg8 hor8 e0 e1 e2 f0 f1 f2
             obtain ⟨⟨e0, e1, e2⟩, ⟨f0, f1, f2⟩, k2, hbw⟩ := HC.out w8 hb8
             have z0 : w8.frozen? ⟨w.heap.size + 1 + 1, 0, none⟩ = false := by simp [World.frozen?, k2]
             have z1 : w8.frozen? ⟨w.heap.size + 1 + 1, 1, none⟩ = false := by simp [World.frozen?, k2]
             have z2 : w8.frozen? ⟨w.heap.size + 1 + 1, 2, none⟩ = false := by simp [World.frozen?, k2]
             have d0 : w8.cell? ⟨w.heap.size + 1 + 1, 0, none⟩ = some (.int .u64 0) := World.news_of_block k2 0 _ rfl
             have d1 : w8.cell? ⟨w.heap.size + 1 + 1, 1, none⟩ = some (.int .u64 0) := World.news_of_block k2 1 _ rfl
             have d2 : w8.cell? ⟨w.heap.size + 1 + 1, 2, none⟩ = some (.slice none 0 0) := World.news_of_block k2 2 _ rfl
             have b1 := heap_setCell_same _ (w.heap.size + 1 + 1) 0 _ _ (.int .u64 x.ballot) k2
             have b2 := heap_setCell_same _ (w.heap.size + 1 + 1) 1 _ _ (.int .u64 lo) b1
             have b3 := heap_setCell_same _ (w.heap.size + 1 + 1) 2 _ _ (.slice (some ⟨g8, 0, none⟩) (ql.length + 1) cap8) b2
             have S0 := Lib.hid (World.news_of_block b3 0 _ rfl)
             have S1 := Lib.hid (World.news_of_block b3 1 _ rfl)
             have S2 := Lib.hid (World.news_of_block b3 2 _ rfl)
             have HBw := Lib.hid hbw
             clear k2 b1 b2 b3 hbw
             clear hb8)
          | fail)
        obtain ⟨W4, HW4⟩ : ∃ y, y = ((w8.setCell ⟨w.heap.size + 1 + 1, 0, none⟩ (.int .u64 x.ballot)).setCell ⟨w.heap.size + 1 + 1, 1, none⟩ (.int .u64 lo)).setCell ⟨w.heap.size + 1 + 1, 2, none⟩ (.slice (some ⟨g8, 0, none⟩) (ql.length + 1) cap8) := ⟨_, rfl⟩
        rw [← HW4] at S0 S1 S2 ⊢
        have s0 : W4.cell? ⟨w.heap.size + 1 + 1, 0, none⟩ = some (.int .u64 x.ballot) := S0.out
        have s1 : W4.cell? ⟨w.heap.size + 1 + 1, 1, none⟩ = some (.int .u64 lo) := S1.out
        have s2 : W4.cell? ⟨w.heap.size + 1 + 1, 2, none⟩ = some (.slice (some ⟨g8, 0, none⟩) (ql.length + 1) cap8) := S2.out
        refine bodyPost_ret (v := .tuple #[.agg #[.int .u64 x.ballot, .int .u64 lo, .slice (some ⟨g8, 0, none⟩) (ql.length + 1) cap8], .int .i64 0]) (by simp [results, Try.results25, go_sem, s0, s1, s2]) rfl ?_
        subst HW4
        refine ⟨some ⟨g8, 0, none⟩, cap8, by rw [HF1.out, List.length_append]; rfl, ?_, ((HBw.out.setCell (by simp; omega) _).setCell (by simp; omega) _).setCell (by simp; omega) _⟩
        rw [HF1.out, List.length_append]
        refine (own_keep (w := w8) HO8.out (fun q hq => ?_)).weaken (by omega)
        have := (HO8.out.lt q hq).1
        repeat rw [Below.heap_setCell _ _ _ _ (by simp; omega)]
      · have hF := HF.out
        rw [if_pos rfl] at hF
        have HF1 := Lib.hid hF
        clear hF HF e0 e1 e2 f0 f1 f2 HBw
        obtain ⟨⟨e0, e1, e2⟩, ⟨f0, f1, f2⟩, k2, hbw⟩ := HC.out wr HB2.out
        have z0 : wr.frozen? ⟨w.heap.size + 1 + 1, 0, none⟩ = false := by simp [World.frozen?, k2]
        have z1 : wr.frozen? ⟨w.heap.size + 1 + 1, 1, none⟩ = false := by simp [World.frozen?, k2]
        have z2 : wr.frozen? ⟨w.heap.size + 1 + 1, 2, none⟩ = false := by simp [World.frozen?, k2]
        have d0 : wr.cell? ⟨w.heap.size + 1 + 1, 0, none⟩ = some (.int .u64 0) := World.news_of_block k2 0 _ rfl
        have d1 : wr.cell? ⟨w.heap.size + 1 + 1, 1, none⟩ = some (.int .u64 0) := World.news_of_block k2 1 _ rfl
        have d2 : wr.cell? ⟨w.heap.size + 1 + 1, 2, none⟩ = some (.slice none 0 0) := World.news_of_block k2 2 _ rfl
        have b1 := heap_setCell_same _ (w.heap.size + 1 + 1) 0 _ _ (.int .u64 x.ballot) k2
        have b2 := heap_setCell_same _ (w.heap.size + 1 + 1) 1 _ _ (.int .u64 lo) b1
        have b3 := heap_setCell_same _ (w.heap.size + 1 + 1) 2 _ _ (.slice o ql.length c) b2
        have S0 := Lib.hid (World.news_of_block b3 0 _ rfl)
        have S1 := Lib.hid (World.news_of_block b3 1 _ rfl)
        have S2 := Lib.hid (World.news_of_block b3 2 _ rfl)
        have HBw := Lib.hid hbw
        clear k2 b1 b2 b3 hbw
        go_wp2_with fail
        obtain ⟨W4, HW4⟩ : ∃ y, y = ((wr.setCell ⟨w.heap.size + 1 + 1, 0, none⟩ (.int .u64 x.ballot)).setCell ⟨w.heap.size + 1 + 1, 1, none⟩ (.int .u64 lo)).setCell ⟨w.heap.size + 1 + 1, 2, none⟩ (.slice o ql.length c) := ⟨_, rfl⟩
        rw [← HW4] at S0 S1 S2 ⊢
        have s0 : W4.cell? ⟨w.heap.size + 1 + 1, 0, none⟩ = some (.int .u64 x.ballot) := S0.out
        have s1 : W4.cell? ⟨w.heap.size + 1 + 1, 1, none⟩ = some (.int .u64 lo) := S1.out
        have s2 : W4.cell? ⟨w.heap.size + 1 + 1, 2, none⟩ = some (.slice o ql.length c) := S2.out
        refine bodyPost_ret (v := .tuple #[.agg #[.int .u64 x.ballot, .int .u64 lo, .slice o ql.length c], .int .i64 0]) (by simp [results, Try.results25, go_sem, s0, s1, s2]) rfl ?_
        subst HW4
        refine ⟨o, c, by rw [HF1.out], ?_, ((HBw.out.setCell (by simp; omega) _).setCell (by simp; omega) _).setCell (by simp; omega) _⟩
        rw [HF1.out]
        refine (own_keep (w := wr) HO.out (fun q hq => ?_)).weaken (by omega)
        have := (HO.out.lt q hq).1
        repeat rw [Below.heap_setCell _ _ _ _ (by simp; omega)]
end Go.Proofs.Ytjdjfhioobhcjaa
