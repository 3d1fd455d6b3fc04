/-
  Package segment: Sync, Read.
-/
import Derived.Test.YtgmdedkingampaaGreatDsk4
import Derived.Test.YtgmdedkingampaaGreatNumR
import Derived.Laws.Cover3
import Derived.Deep.QuietTactic
import Derived.Deep.RegionHeld3
import Derived.RangeFuncNested
import Derived.RangeFuncBound
import Derived.RangeFuncCalls
import Derived.RangeFuncLeaves
import Derived.RangeFuncBox
import Derived.Shelf.Abstract
import Derived.Shelf.RegionOpen
import Derived.OwnWalkIn
import Derived.TacticsInMore
import Derived.LoopNIn
import Derived.LoopIn
import Derived.Maps.AppendAt
import Derived.Sort.QuietTacIn
import Derived.Sort.QuietIn
set_option linter.unusedVariables false
set_option linter.unusedSimpArgs false
namespace Go.Proofs.YtgmdedkingampaaGreat
open Go.ChangeShapes Go.WideShapes Go.ChangeAt Go.RowKit Go.Maps
set_option maxRecDepth 100000
set_option linter.unusedVariables false
set_option linter.unusedSimpArgs false

def fourI (xs : List Int) : Int := (xs.take 4).foldl (fun a c => a * 256 + c) 0
theorem four_bound (xs : List Int) (h8 : U8 xs) : ∀ k, k ≤ 4 → 0 ≤ (xs.take k).foldl (fun a c => a * 256 + c) 0 ∧ (xs.take k).foldl (fun a c => a * 256 + c) 0 < 256 ^ k := by
  intro k
  induction k with
  | zero => intro _; simp
  | succ k ih =>
    intro hk
    have ih := ih (by omega)
    rw [List.take_add_one]
    cases hc : xs[k]? with
    | none =>
      simp only [Option.toList_none, List.append_nil]
      refine ⟨ih.1, Int.lt_trans ih.2 ?_⟩
      have : (0 : Int) < 256 ^ k := Int.pow_pos (by omega)
      rw [Int.pow_succ]; omega
    | some c =>
      have h := h8 c (List.mem_of_getElem? hc)
      simp only [Option.toList_some, List.foldl_append, List.foldl_cons, List.foldl_nil]
      have : (0 : Int) < 256 ^ k := Int.pow_pos (by omega)
      rw [Int.pow_succ]
      omega
theorem four_any {w : World} {v : Value} {xs : List Int} (h : SlR w v (u8s xs)) (h8 : U8 xs) (hl : 4 ≤ xs.length) : Calls Tryz.prog 126 #[v] w fun e w' => e = .returned (.int .u64 (fourI xs)) ∧ w = w' := by
  obtain ⟨ao, ac, rfl, hac, _⟩ := id h.form
  simp only [List.length_map] at h hac ⊢
  have g1 : (4 : Int) ≤ (ac : Int) := by omega
  have g2 : 4 ≤ ac := by omega
  have g3 : (4 : Int) ≤ (xs.length : Int) := by omega
  have H := Lib.hid h
  have H8 := Lib.hid h8
  have HB := Lib.hid (four_bound xs h8)
  clear h h8
  go_enter Tryz.func126, Tryz.ntmps126
  go_wp2_with fail
  go_loopw [9, 3] (fun i x wr => ∃ k : Nat, k ≤ 4 ∧ i = .int .i64 k ∧ x = .int .u64 ((xs.take k).foldl (fun a c => a * 256 + c) 0) ∧ Hid (wr = w)) (fun i _ _ => 4 - (intOf i).toNat)
  case atStart => exact ⟨0, by omega, rfl, rfl, Lib.hid rfl⟩
  case round =>
    obtain ⟨k, hk, rfl, rfl, hw⟩ := hrel
    have hw' := hw.out
    clear hw
    subst hw'
    by_cases hlt : k < 4
    · have hlt2 : (k : Int) < 4 := by omega
      obtain ⟨c, hc⟩ : ∃ c, xs[k]? = some c := ⟨_, List.getElem?_eq_getElem (by omega)⟩
      obtain ⟨_, hau, hcm⟩ := H.out.at' (m := k) (u := .int .u8 c) (by simp [hc])
      subst hau
      have h255 := H8.out c (List.mem_of_getElem? hc)
      have hf : (xs.take (k + 1)).foldl (fun a c => a * 256 + c) 0 = (xs.take k).foldl (fun a c => a * 256 + c) 0 * 256 + c := by
        rw [List.take_add_one, hc]; simp
      have hb := HB.out k (by omega)
      have hpw : (256 : Int) ^ k ≤ 256 ^ 3 := by
        have : k = 0 ∨ k = 1 ∨ k = 2 ∨ k = 3 := by omega
        rcases this with rfl | rfl | rfl | rfl <;> decide
      generalize (xs.take k).foldl (fun a c => a * 256 + c) 0 = X at *
      have hX : X < 16777216 := Int.lt_of_lt_of_le hb.2 hpw
      have hX0 := hb.1
      have hw1 : IntKind.u64.wrap (X * 256) = X * 256 := IntWalk.u64_in _ (by constructor <;> omega)
      have hw2 : IntKind.u64.wrap c = c := IntWalk.u64_in _ (by constructor <;> omega)
      have hor := or_u8 (x := X) (y := c) hX0 (by omega) h255.1 h255.2
      have HF := Lib.hid hf
      clear hf hb hpw hc
      go_wp2_with fail
      go_roundw
      case rel => exact ⟨k + 1, by omega, by go_num, by rw [HF.out], (by first | exact Lib.hid rfl | exact Lib.hid trivial)⟩
      case measure => simp [intOf]; omega
    · have : k = 4 := by omega
      subst this
      go_wp2_with fail
      go_ret
      exact ⟨rfl, rfl⟩
theorem zero_sum : (List.replicate 56 (0 : Int) ++ sum4 (List.replicate 56 0) == List.replicate 60 0) = false := by decide +kernel
theorem SlR.takeC {w : World} {ao : Option Addr} {n c : Nat} {cs : List Value} (h : SlR w (.slice ao n c) cs) (k : Nat) (hk : k ≤ cs.length) : SlR w (.slice ao k c) (cs.take k) := by
  obtain ⟨ao', c', hv, h1, h2, hx⟩ := h
  cases hv
  have hl : (cs.take k).length = k := by simp; omega
  refine ⟨ao, c, by rw [hl], by rw [hl]; omega, h2, fun i u hi => ?_⟩
  rw [List.getElem?_take] at hi
  split at hi
  · exact hx i u hi
  · cases hi
attribute [local go_sem ↓] ex_rowLoad
theorem zero_sum' : ((List.replicate 60 (0 : Int)).take ((List.replicate 60 (0 : Int)).length - 4) ++ sum4 ((List.replicate 60 (0 : Int)).take ((List.replicate 60 (0 : Int)).length - 4)) == List.replicate 60 0) = false := zero_sum
set_option maxHeartbeats 1000000 in
/-- A block of noughts is not whole. -/
theorem whole_zero {w : World} {g ac : Nat} (h : SlR w (.slice (some ⟨g, 0, none⟩) 64 ac) (u8s zeroB)) : Calls Tryz.prog 141 #[.slice (some ⟨g, 0, none⟩) 64 ac] w fun e w' => e = .returned (.bool false) ∧ Below w.heap.size w w' := by
  obtain ⟨_, _, hv, hac, hac2⟩ := id h.form
  cases hv
  have hl : (u8s zeroB).length = 64 := by simp [zeroB]
  rw [hl] at hac
  have g1 : (60 : Int) ≤ 64 := by omega
  have g2 : (60 : Int) ≤ (ac : Int) := by omega
  have g3 : 60 ≤ ac := by omega
  have g4 : (64 : Int) ≤ (ac : Int) := by omega
  have hat : ∀ w, (Instr.arrayAt 227 (.slice (some ⟨g, 0, none⟩) 64 ac)).run Tryz.prog w = .ok (.pointer (some ⟨g, 0, none⟩)) w := fun w => run_arrayAt w 227 5 4 _ _ _ Tryz.underlying227 (by omega)
  have hat2 : ∀ w, (Instr.arrayAt 227 (.slice (some ⟨g, 60, none⟩) 4 (ac - 60))).run Tryz.prog w = .ok (.pointer (some ⟨g, 60, none⟩)) w := fun w => run_arrayAt w 227 5 4 _ _ _ Tryz.underlying227 (by omega)
  have hcell : ∀ j, j < 64 → w.cell? ⟨g, j, none⟩ = some (.int .u8 0) := fun j hj => by
    obtain ⟨a, ha, hc⟩ := h.at' (m := j) (u := .int .u8 0) (by rw [List.getElem?_map, zeroB, List.getElem?_replicate, if_pos hj]; rfl)
    cases ha
    rw [Addr.add_mid, Nat.zero_add] at hc
    exact hc
  have hinfo : (Tryz.prog.info? 227).map (·.size) = some 4 := by kernel_rfl
  have hglt : g < w.heap.size := World.block_lt_of_cell? w _ (hcell 0 (by omega))
  have hr : ∀ (w' : World), w'.heap[g]? = w.heap[g]? → ∀ o, o + 4 ≤ 64 → w'.rangeAt g o [.int .u8 0, .int .u8 0, .int .u8 0, .int .u8 0] := fun w' hb o ho j v hv => by
    have hj : j < 4 := (List.getElem?_eq_some_iff.1 hv).1
    have hv0 : v = .int .u8 0 := by
      have : j = 0 ∨ j = 1 ∨ j = 2 ∨ j = 3 := by omega
      rcases this with rfl | rfl | rfl | rfl <;> (cases hv; rfl)
    rw [hv0]
    exact (World.cell?_of_block (a := ⟨g, o + j, none⟩) hb).trans (hcell (o + j) (by omega))
  have hS : ∀ w' : World, w'.heap[g]? = w.heap[g]? → (rowLoad 227 (.pointer (some ⟨g, 0, none⟩))).run Tryz.prog w' = .ok (.agg #[.int .u8 0, .int .u8 0, .int .u8 0, .int .u8 0]) w' ∧ (rowLoad 227 (.pointer (some ⟨g, 60, none⟩))).run Tryz.prog w' = .ok (.agg #[.int .u8 0, .int .u8 0, .int .u8 0, .int .u8 0]) w' := fun w' hb =>
    ⟨run_rowLoad (P := Tryz.prog) (w := w') 227 g 0 _ _ (hr w' hb 0 (by omega)) Tryz.underlying227 rfl hinfo, run_rowLoad (P := Tryz.prog) (w := w') 227 g 60 _ _ (hr w' hb 60 (by omega)) Tryz.underlying227 rfl hinfo⟩
  have HSS := Lib.hid hS
  have hS1 := hS w.drew rfl
  have heq : ∀ w : World, (Op.equalIn 10000 227 (.agg #[.int .u8 0, .int .u8 0, .int .u8 0, .int .u8 0]) (.agg #[.int .u8 0, .int .u8 0, .int .u8 0, .int .u8 0])).run Tryz.prog w = .ok true w := fun _ => by kernel_rfl
  have ht := h.takeC 60 (by rw [hl]; omega)
  rw [← List.map_take, show zeroB.take 60 = List.replicate 60 0 from rfl] at ht
  have HR := Lib.hid (right_any (w := w.drew) (ht.drew (Drew.of w 1)) (fun x hx => by have := List.eq_of_mem_replicate hx; omega) (by simp) (by simp))
  have hMk : RowMark 227 := ⟨trivial⟩
  clear h hcell hr hinfo ht hS
  go_enter Tryz.func141, Tryz.ntmps141
  go_wp2_with fail
  go_region_held3 (fun w' => (rowLoad 227 (.pointer (some ⟨g, 0, none⟩))).run Tryz.prog w' = .ok (.agg #[.int .u8 0, .int .u8 0, .int .u8 0, .int .u8 0]) w' ∧ (rowLoad 227 (.pointer (some ⟨g, 60, none⟩))).run Tryz.prog w' = .ok (.agg #[.int .u8 0, .int .u8 0, .int .u8 0, .int .u8 0]) w') (first | exact hS1 | exact hS2 | go_keep)
   (first
    | (go_at_call 154; (with_reducible refine HR.out.mono ?_); rintro e w2 ⟨rfl, h2⟩
       have hS2 := HSS.out w2 (h2.block g hglt)
       have HB2 := Lib.hid ((Below.refl w.heap.size w).drew.trans h2)
       clear h2))
  all_goals
    clear hMk
    go_wp2_with fail
    go_ret
    exact ⟨rfl, HB2.out⟩
theorem read_zero {w : World} {g ac : Nat} (h : SlR w (.slice (some ⟨g, 0, none⟩) 64 ac) (u8s zeroB)) : Calls Tryz.prog 127 #[.slice (some ⟨g, 0, none⟩) 64 ac] w fun e w' => e = .returned (.tuple #[.agg #[.int .u64 0, .int .u64 0, .int .i64 0, .int .i64 0, .slice none 0 0], .bool false]) ∧ Below w.heap.size w w' := by
  have hb := below_lit w (.cells #[.int .u64 0, .int .u64 0, .int .i64 0, .int .i64 0, .slice none 0 0] 179)
  have HW := Lib.hid (whole_zero (h.below hb (Nat.le_refl _)))
  have hn : (w.alloc (.cells #[.int .u64 0, .int .u64 0, .int .i64 0, .int .i64 0, .slice none 0 0] 179)).heap[w.heap.size]? = some (.cells #[.int .u64 0, .int .u64 0, .int .i64 0, .int .i64 0, .slice none 0 0] 179 (0, 0)) := heap_alloc_new w _
  have HN := Lib.hid hn
  have HB := Lib.hid hb
  clear h hb hn
  go_enter Tryz.func127, Tryz.ntmps127
  go_wp2_with fail
  refine HW.out.mono ?_
  rintro e w2 ⟨rfl, h2⟩
  have hn2 := (h2.block w.heap.size (by simp)).trans HN.out
  have HB2 := Lib.hid (HB.out.trans (h2.mono HB.out.size))
  have c0 : w2.cell? ⟨w.heap.size, 0, none⟩ = some (.int .u64 0) := by simp [World.cell?, hn2]
  have c1 : w2.cell? ⟨w.heap.size, 1, none⟩ = some (.int .u64 0) := by simp [World.cell?, hn2]
  have c2 : w2.cell? ⟨w.heap.size, 2, none⟩ = some (.int .i64 0) := by simp [World.cell?, hn2]
  have c3 : w2.cell? ⟨w.heap.size, 3, none⟩ = some (.int .i64 0) := by simp [World.cell?, hn2]
  have c4 : w2.cell? ⟨w.heap.size, 4, none⟩ = some (.slice none 0 0) := by simp [World.cell?, hn2]
  have f : ∀ j, w2.frozen? ⟨w.heap.size, j, none⟩ = false := fun j => by simp [World.frozen?, hn2]
  have HN2 := Lib.hid hn2
  clear hn2 h2
  go_wp2_with (first
    | (refine wpList_store_rowTo rfl 179 (.tmp 2) (.tmp 8) rfl rfl w.heap.size #[.int .u64 0, .int .u64 0, .int .i64 0, .int .i64 0, .slice none 0 0] rfl rfl 179 _ HN2.out (by kernel_rfl) rfl (by kernel_rfl) ?_)
    | fail)
  refine bodyPost_cell2 rfl w.heap.size (cells := #[.int .u64 0, .int .u64 0, .int .i64 0, .int .i64 0, .slice none 0 0]) (t := 179) rfl (.bool false) rfl (by simp [World.setRow, Array.getElem?_modify, HN2.out]) Tryz.underlying179 rfl (by kernel_rfl) rfl ⟨rfl, ?_⟩
  exact HB2.out.trans ((keep_setRowB w2 w.heap.size #[.int .u64 0, .int .u64 0, .int .i64 0, .int .i64 0, .slice none 0 0]).below HB2.out.size (fun k hk => by omega))
/-- All blocks of a disk of noughts: none is right. -/
theorem all_zero {W w : World} {os : List Ob} (h : SepW W w os) (i : Nat) {b0 : Nat} {D : Nat → Prop} {n : Nat} (hi : os[i]? = some (obDk b0 D (newDk n))) {fr m : Nat} (hm : fr + m ≤ n) (hn : n ≤ 65536) :
    Calls Tryz.prog 100 #[.pointer (some ⟨b0, 0, none⟩), .int .i64 fr, .int .i64 m] w fun e w' => ∃ bm, e = .returned (.tuple #[.map (some bm), .int .u64 0, .int .i64 0]) ∧ MapR w' Tryz.prog 3 bm 0 (fun _ => none) ∧ w.heap.size ≤ bm ∧ SepW W w' os := by
  have hmm := @run_makeMap Tryz.prog
  have H := Lib.hid h
  have HI := Lib.hid hi
  have hM := MapR.made w Tryz.prog 3
  have HM := Lib.hid hM
  have HS0 := Lib.hid (h.step ((Below.refl w.heap.size w).alloc (Nat.le_refl _) (.map #[] 0)))
  clear h hi hM
  go_enter Tryz.func100, Tryz.ntmps100
  go_wp2_with fail
  have hgl : w.heap.size < (w.alloc (.map #[] 0)).heap.size := by simp
  have HG := Lib.hid hgl
  clear hgl
  generalize hw1 : w.alloc (.map #[] 0) = w1 at *
  go_loopw [18, 10] (fun i top wr => ∃ k : Nat, k ≤ m ∧ i = .int .i64 k ∧ top = .int .u64 0 ∧ MapR wr Tryz.prog 3 w.heap.size 0 (fun _ => none) ∧ Below w1.heap.size w1 wr ∧ SepW W wr os) (fun i _ _ => m - (intOf i).toNat)
  case atStart => exact ⟨0, by omega, rfl, rfl, HM.out, Below.refl _ _, HS0.out⟩
  case round =>
    clear HS0
    obtain ⟨k, hk, rfl, rfl, hM, hbr, hs⟩ := hrel
    have HMk := Lib.hid hM
    have HBr := Lib.hid hbr
    have HGr : Hid (w1.heap.size ≤ wr.heap.size) := Lib.hid hbr.size
    have HS := Lib.hid hs
    clear hM hs hbr
    by_cases hlt : k < m
    · have hlt2 : (k : Int) < (m : Int) := by omega
      have hw : IntKind.i64.wrap ((fr : Int) + (k : Int)) = ((fr + k : Nat) : Int) := by rw [show (fr : Int) + (k : Int) = ((fr + k : Nat) : Int) by omega]; exact IntWalk.i64_in _ (by constructor <;> omega)
      have hz : (newDk n).l[fr + k]? = some zeroB := by unfold newDk; rw [List.getElem?_replicate, if_pos (by omega)]
      have HRd := Lib.hid (HS.out.dkRead i HI.out rfl rfl hz)
      clear hz
      go_wp2_with fail
      refine HRd.out.mono ?_
      rintro e w3 ⟨v', rfl, hs3, hb3⟩
      have HRb := Lib.hid hb3
      clear hb3
      have hzl : zeroB.length = 64 := rfl
      rw [hzl] at hs3
      obtain ⟨g, cap, rfl, _⟩ := World.ownsRow.form (hs3.get 0 rfl : w3.ownsRow 0 5 1 v' 64 (u8s zeroB)) (by omega)
      have hr : SlR w3 (.slice (some ⟨g, 0, none⟩) 64 cap) (u8s zeroB) := hs3.row 0 rfl
      have hr2 := hr.drop' 60
      rw [Addr.add_mid, ← List.map_drop] at hr2
      have u0 : U8 zeroB := zeroB_ok.2
      have f1 : ∀ n, Calls Tryz.prog 126 #[.slice (some ⟨g, 0, none⟩) 64 cap] (w3.drewN n) fun e w' => e = .returned (.int .u64 0) ∧ w3.drewN n = w' := fun n => four_any (xs := zeroB) (hr.drewN n) u0 (by decide)
      have f2 : ∀ n, Calls Tryz.prog 126 #[.slice (some ⟨g, 60, none⟩) 4 (cap - 60)] (w3.drewN n) fun e w' => e = .returned (.int .u64 0) ∧ w3.drewN n = w' := fun n => four_any (xs := zeroB.drop 60) (hr2.drewN n) (fun x hx => u0 x (List.mem_of_mem_drop hx)) (by decide)
      have hcap : 64 ≤ cap := by
        obtain ⟨_, _, hv, h1, _⟩ := hr
        cases hv
        exact h1
      have hcap2 : (60 : Int) ≤ (cap : Int) := by omega
      have hcap3 : (64 : Int) ≤ (cap : Int) := by omega
      have HR := Lib.hid hr
      have HF1 := Lib.hid f1
      have HF2 := Lib.hid f2
      have HS3 := Lib.hid hs3
      clear hr hr2 f1 f2 u0 hs3 HRd
      go_wp2_with fail
      go_quiet (first | (go_at_call 126; with_reducible exact quiet_same (HF1.out _)) | (go_at_call 126; with_reducible exact quiet_same (HF2.out _)) | fail)
      go_wp2_with fail
      refine (read_zero (HR.out.drewN nq)).mono ?_
      rintro e w4 ⟨rfl, h4⟩
      have hs4 := (HS3.out.drewN nq).step h4
      have HS5 := Lib.hid ((hs4.newBlk #[.int .u64 0, .int .u64 0, .int .i64 0, .int .i64 0, .slice none 0 0] 179).sub (List.sublist_append_right [_, _] _))
      have hB5 : Below w1.heap.size w1 (w4.alloc (.cells #[.int .u64 0, .int .u64 0, .int .i64 0, .int .i64 0, .slice none 0 0] 179)) := ((below_drewN (HBr.out.trans (HRb.out.mono HBr.out.size)) nq).trans (h4.mono (Nat.le_trans HBr.out.size HRb.out.size))).alloc (Nat.le_trans (Nat.le_trans HBr.out.size HRb.out.size) h4.size) _
      have HB5 := Lib.hid hB5
      clear h4 hs4 hB5
      go_wp2_with fail
      go_roundw
      case rel => exact ⟨k + 1, by omega, by go_num, rfl, HM.out.same (HB5.out.block _ HG.out), HB5.out, HS5.out⟩
      case measure => simp [intOf]; omega
    · have : k = m := by omega
      subst this
      go_wp2_with fail
      go_returns
      exact ⟨w.heap.size, rfl, HMk.out, Nat.le_refl _, HS.out⟩
end Go.Proofs.YtgmdedkingampaaGreat

namespace Go.Proofs.YtgmdedkingampaaGreat
open Go.ChangeShapes Go.WideShapes Go.ChangeAt Go.RowKit Go.Maps
set_option maxRecDepth 100000
set_option linter.unusedVariables false
set_option linter.unusedSimpArgs false

/-- A segment. -/
structure Sg where
  fr : Nat
  n : Nat
  epoch : Int
  l : List (List Int)
  used : Nat
  sure : Nat
  gone : Nat
  e : Int
structure SgOk (s : Sg) : Prop where
  nums : s.fr ≤ 65536 ∧ s.n ≤ 65536 ∧ s.used ≤ s.n ∧ s.sure ≤ 1000000 ∧ s.gone ≤ 1000000
  epoch : 0 ≤ s.epoch ∧ s.epoch ≤ 4294967295
  u8 : ∀ r ∈ s.l, U8 r ∧ r.length ≤ 4096
  few : s.l.length ≤ 65536
structure SgR (w : World) (D : Nat → Prop) (b0 s0 : Nat) (lv : Value) (vs : List Value) (s : Sg) : Prop where
  cells : w.heap[s0]? = some (.cells #[.pointer (some ⟨b0, 0, none⟩), .int .i64 s.fr, .int .i64 s.n, .int .u64 s.epoch, lv, .int .i64 s.used, .int .i64 s.sure, .int .i64 s.gone, .int .i64 s.e] 175 (0, 0))
  own : w.ownsRow 0 27 1 lv s.l.length vs
  vals : ValsK w .u8 vs s.l
  off : ∀ u ∈ vs, ∀ k, u.ownBlock = some k → D k ∧ k ≠ s0 ∧ lv.ownBlock ≠ some k
  lt : ∀ k, D k → k < w.heap.size
  d0 : D s0
  dl : ∀ k, lv.ownBlock = some k → D k ∧ k ≠ s0
  ok : SgOk s
theorem SgR.keep {S D : Nat → Prop} {w w' : World} {b0 s0 : Nat} {lv : Value} {vs : List Value} {s : Sg} (h : SgR w D b0 s0 lv vs s) (hk : Keep S w w') (hS : ∀ k, S k → ¬ D k) : SgR w' D b0 s0 lv vs s := by
  have hb : ∀ k, D k → w'.heap[k]? = w.heap[k]? := fun k hd => hk.block k (h.lt k hd) (fun hs => hS k hs hd)
  exact ⟨(hb _ h.d0).trans h.cells, own_keep h.own (fun k hv => hb k (h.dl k hv).1), h.vals.keep hk (fun u hu k hk' hs => hS k hs (h.off u hu k hk').1), h.off, fun k hd => Nat.lt_of_lt_of_le (h.lt k hd) hk.size, h.d0, h.dl, h.ok⟩
def SgO (b0 s0 : Nat) (D : Nat → Prop) (w : World) (s : Sg) : Prop := ∃ lv vs, SgR w D b0 s0 lv vs s
def obSg (b0 s0 : Nat) (D : Nat → Prop) (s : Sg) : Ob := ⟨D, fun w => SgO b0 s0 D w s⟩
theorem obSg_good (b0 s0 : Nat) (D : Nat → Prop) (s : Sg) : (obSg b0 s0 D s).Good :=
  ⟨fun {S w w'} h hk hs => by obtain ⟨lv, vs, h⟩ := (h : SgO b0 s0 D w s); exact ⟨lv, vs, h.keep hk hs⟩, fun {w} h k hk => by obtain ⟨lv, vs, h⟩ := (h : SgO b0 s0 D w s); exact h.lt k hk⟩
theorem SgR.cell {D : Nat → Prop} {w : World} {b0 s0 : Nat} {lv : Value} {vs : List Value} {s : Sg} (h : SgR w D b0 s0 lv vs s) :
    (w.cell? ⟨s0, 0, none⟩ = some (.pointer (some ⟨b0, 0, none⟩)) ∧ w.cell? ⟨s0, 1, none⟩ = some (.int .i64 s.fr) ∧ w.cell? ⟨s0, 2, none⟩ = some (.int .i64 s.n) ∧ w.cell? ⟨s0, 3, none⟩ = some (.int .u64 s.epoch) ∧ w.cell? ⟨s0, 4, none⟩ = some lv ∧
    w.cell? ⟨s0, 5, none⟩ = some (.int .i64 s.used) ∧ w.cell? ⟨s0, 6, none⟩ = some (.int .i64 s.sure) ∧ w.cell? ⟨s0, 7, none⟩ = some (.int .i64 s.gone) ∧ w.cell? ⟨s0, 8, none⟩ = some (.int .i64 s.e)) ∧
    ∀ j, w.frozen? ⟨s0, j, none⟩ = false := by
  have := h.cells
  refine ⟨by simp [World.cell?, this], fun j => by simp [World.frozen?, this]⟩
theorem Tryz.zeroSeg (w : World) : (zeroValue 179).run Tryz.prog w = .ok (.agg #[.int .u64 0, .int .u64 0, .int .i64 0, .int .i64 0, .slice none 0 0]) w := by kernel_rfl
theorem i64_key {P : Program} {t : TypeId} (ht : P.underlying t = some (.int .i64)) {n : Int} (h0 : -9223372036854775808 ≤ n) (h1 : n ≤ 9223372036854775807) : keyOf P t (.int .i64 n) = some (.int .i64 n) :=
  keyOf_int_mk ht (by simp [Lit.wf, IntKind.min, IntKind.max, IntKind.signed, IntKind.bits]; omega)
/-- No record begins where no block is right. -/
theorem record_none {w : World} {bm N : Nat} (h : MapR w Tryz.prog 3 bm N (fun _ => none)) {a : Int} (ha0 : 0 ≤ a) (ha : a ≤ 65536) (p ep : Int) : Calls Tryz.prog 101 #[.map (some bm), .int .i64 a, .int .u64 p, .int .u64 ep] w fun e w' => e = .returned (.tuple #[.slice none 0 0, .int .u64 0, .bool false]) ∧ Below w.heap.size w w' := by
  have hl := h.look_ok (t := 171) (int_keyed Tryz.underlying3) Tryz.underlying171 (Tryz.zeroSeg w) (i64_key Tryz.underlying3 (n := a) (by omega) (by omega))
  simp only [Option.getD_none, Option.isSome_none] at hl
  have hb := Lib.hid (below_lit w (.cells #[.int .u64 0, .int .u64 0, .int .i64 0, .int .i64 0, .slice none 0 0] 179))
  clear h
  go_enter Tryz.func101, Tryz.ntmps101
  go_wp2_with fail
  go_step3
  go_wp2_with fail
  rw [Exit.noGoto_ret]
  go_returns
  exact ⟨rfl, hb.out⟩
theorem SepW.retype {W w : World} {os : List Ob} (h : SepW W w os) (i : Nat) {o o' : Ob} (hi : os[i]? = some o) (g : o'.Good) (hinv : o'.inv w) (hf : ∀ k, o'.foot k → o.foot k) : SepW W w (os.set i o') := h.set i hi (Keep.refl _ _) g hinv (fun k hk => Or.inl (hf k hk))
def newSg (fr n : Nat) : Sg := ⟨fr, n, 1, [], 0, 0, 0, 0⟩
set_option maxHeartbeats 1000000 in
theorem SepW.sgOpen {W w : World} {os : List Ob} (h : SepW W w os) (i : Nat) {b0 : Nat} {D : Nat → Prop} {N : Nat} (hi : os[i]? = some (obDk b0 D (newDk N))) {fr n : Nat} (hn : 1 ≤ n) (hm : fr + n ≤ N) (hN : N ≤ 65536) :
    Calls Tryz.prog 60 #[.pointer (some ⟨b0, 0, none⟩), .int .i64 fr, .int .i64 n] w fun e w' => ∃ s0 Ds, e = .returned (.tuple #[.pointer (some ⟨s0, 0, none⟩), .int .i64 0]) ∧ SepW W w' (obSg b0 s0 Ds (newSg fr n) :: os) := by
  have hlen : (newDk N).l.length = N := by simp [newDk]
  have hL := h.dkLen i hi
  rw [hlen] at hL
  have HL := Lib.hid hL
  have HA := Lib.hid (all_zero h i hi hm hN)
  have H := Lib.hid h
  have HI := Lib.hid hi
  have d1 : decide ((fr : Int) < 0) = false := decide_eq_false (by omega)
  have d2 : decide ((n : Int) < 1) = false := decide_eq_false (by omega)
  have d3 : decide ((N : Int) < (fr : Int)) = false := decide_eq_false (by omega)
  have hw : IntKind.i64.wrap ((N : Int) - (fr : Int)) = (N : Int) - (fr : Int) := IntWalk.i64_in _ (by constructor <;> omega)
  have d4 : decide ((N : Int) - (fr : Int) < (n : Int)) = false := decide_eq_false (by omega)
  clear h hi hL hlen
  go_enter Tryz.func60, Tryz.ntmps60
  go_wp2_with (first | (go_at_call 99; (with_reducible refine HL.out.mono ?_); rintro e w' ⟨rfl, rfl⟩) | fail)
  refine HA.out.mono ?_
  rintro e w2 ⟨bm, rfl, hM, hbm, hs2⟩
  have HS2 := Lib.hid hs2
  have HM := Lib.hid hM
  have hs3 := hs2.newBlk #[.pointer (some ⟨b0, 0, none⟩), .int .i64 fr, .int .i64 n, .int .u64 1, .slice none 0 0, .int .i64 0, .int .i64 0, .int .i64 0, .int .i64 0] 175
  have HS3 := Lib.hid hs3
  have hM3 := hM.same (Below.heap_alloc w2 (.cells #[.pointer (some ⟨b0, 0, none⟩), .int .i64 fr, .int .i64 n, .int .u64 1, .slice none 0 0, .int .i64 0, .int .i64 0, .int .i64 0, .int .i64 0] 175 (0, 0)) bm hM.lt)
  have HM3 := Lib.hid hM3
  clear hs2 hM hs3 hM3 HA H
  go_wp2_with fail
  have hbs : bm < w2.heap.size := HM.out.lt
  generalize hw3 : w2.alloc (.cells #[.pointer (some ⟨b0, 0, none⟩), .int .i64 fr, .int .i64 n, .int .u64 1, .slice none 0 0, .int .i64 0, .int .i64 0, .int .i64 0, .int .i64 0] 175) = w3 at *
  generalize w2.heap.size = sb at *
  go_loopw [12] (fun x wr => x = .int .u64 0 ∧ SepW W wr (obBlk sb (.cells #[.pointer (some ⟨b0, 0, none⟩), .int .i64 fr, .int .i64 n, .int .u64 1, .slice none 0 0, .int .i64 0, .int .i64 0, .int .i64 0, .int .i64 0] 175) :: os) ∧ MapR wr Tryz.prog 3 bm 0 (fun _ => none)) (fun _ _ => 0)
  case atStart => exact ⟨rfl, HS3.out, HM3.out⟩
  case round =>
    obtain ⟨rfl, hs, hM⟩ := hrel
    have HS := Lib.hid hs
    have hb : wr.heap[sb]? = some (.cells #[.pointer (some ⟨b0, 0, none⟩), .int .i64 fr, .int .i64 n, .int .u64 1, .slice none 0 0, .int .i64 0, .int .i64 0, .int .i64 0, .int .i64 0] 175 (0, 0)) := hs.get 0 rfl
    have HB := Lib.hid hb
    have c4 : wr.cell? ⟨sb, 4, none⟩ = some (.slice none 0 0) := by simp [World.cell?, hb]
    have c5 : wr.cell? ⟨sb, 5, none⟩ = some (.int .i64 0) := by simp [World.cell?, hb]
    have c6 : wr.cell? ⟨sb, 6, none⟩ = some (.int .i64 0) := by simp [World.cell?, hb]
    have f6 : wr.frozen? ⟨sb, 6, none⟩ = false := by simp [World.frozen?, hb]
    have HR := Lib.hid (record_none (w := wr.drew) (hM.same rfl) (a := 0) (by omega) (by omega) 0 0)
    have hw0 : IntKind.u64.wrap 0 = 0 := by decide
    clear hs hM hb
    go_wp2_with fail
    go_region_held3 (fun w' => w'.cell? ⟨sb, 4, none⟩ = some (.slice none 0 0) ∧ w'.cell? ⟨sb, 5, none⟩ = some (.int .i64 0)) (first | exact hS2 | go_keep)
     (first
      | (go_at_call 101; (with_reducible refine HR.out.mono ?_); rintro e w4 ⟨rfl, h4⟩
         have hs4 := (HS.out.drew).step h4
         have hb4 : w4.heap[sb]? = some (.cells #[.pointer (some ⟨b0, 0, none⟩), .int .i64 fr, .int .i64 n, .int .u64 1, .slice none 0 0, .int .i64 0, .int .i64 0, .int .i64 0, .int .i64 0] 175 (0, 0)) := hs4.get 0 rfl
         have hS2 : w4.cell? ⟨sb, 4, none⟩ = some (.slice none 0 0) ∧ w4.cell? ⟨sb, 5, none⟩ = some (.int .i64 0) := ⟨by simp [World.cell?, hb4], by simp [World.cell?, hb4]⟩
         have HS4 := Lib.hid hs4
         have HB4 := Lib.hid hb4
         clear hs4 hb4 h4))
    all_goals
      clear c4 c5 c6 f6
      have c4 : w4.cell? ⟨sb, 4, none⟩ = some (.slice none 0 0) := by simp [World.cell?, HB4.out]
      have c6 : w4.cell? ⟨sb, 6, none⟩ = some (.int .i64 0) := by simp [World.cell?, HB4.out]
      have f6 : w4.frozen? ⟨sb, 6, none⟩ = false := by simp [World.frozen?, HB4.out]
      have hs5 := HS4.out.blkSet 0 rfl 6 (.int .i64 0)
      have HS5 := Lib.hid hs5
      clear hs5
      go_wp2_with fail
      go_returns
      have hinv : SgR (w4.setCell ⟨sb, 6, none⟩ (.int .i64 0)) (fun k => k = sb) b0 sb (.slice none 0 0) [] (newSg fr n) :=
        ⟨HS5.out.get 0 rfl, World.ownsRow_nil _ _ _ _, ValsK.nil _ _, fun u hu => (by cases hu), fun k hk => (by rw [show k = sb from hk]; exact (Array.getElem?_eq_some_iff.1 (HS5.out.get 0 rfl : (w4.setCell ⟨sb, 6, none⟩ (.int .i64 0)).heap[sb]? = some _)).1), rfl, fun k hk => (by cases hk), ⟨by simp [newSg]; omega, by simp [newSg], by simp [newSg], by simp [newSg]⟩⟩
      exact ⟨sb, fun k => k = sb, by simp, HS5.out.retype 0 rfl (obSg_good ..) ⟨_, _, hinv⟩ (fun k hk => hk)⟩
end Go.Proofs.YtgmdedkingampaaGreat

namespace Go.Proofs.YtgmdedkingampaaGreat
open Go.ChangeShapes Go.WideShapes Go.ChangeAt Go.RowKit Go.Maps
set_option maxRecDepth 100000
set_option linter.unusedVariables false
set_option linter.unusedSimpArgs false

def b4 (x : Int) : List Int := [x / 16777216 % 256, x / 65536 % 256, x / 256 % 256, x % 256]
def z4 (x : Int) (k : Nat) : List Int := (b4 x).take k ++ List.replicate (4 - k) 0
def laidK (ep pl : Int) (k : Nat) (h : List Int) (r : List Int) : List Int := z4 ep k ++ z4 pl k ++ h ++ r
def laid56 (ep pl : Int) (part parts : Nat) (xs : List Int) : List Int := b4 ep ++ b4 pl ++ [(part : Int) % 256, (parts : Int) % 256, (xs.length : Int) % 256] ++ (xs ++ List.replicate (45 - xs.length) 0)
def laidB (ep pl : Int) (part parts : Nat) (xs : List Int) : List Int := laid56 ep pl part parts xs ++ sum4 (laid56 ep pl part parts xs) ++ b4 ep
theorem u8s_set (L : List Int) (i : Nat) (v : Int) : ((u8s L).toArray.setIfInBounds i (.int .u8 v)) = (u8s (L.set i v)).toArray := by
  simp [List.map_set]
theorem u8s_heap {w : World} {b : Nat} {L : List Int} {t : TypeId} (h : w.heap[b]? = some (.cells (u8s L).toArray t (0, 0))) (i : Nat) (v : Int) : (w.setCell ⟨b, i, none⟩ (.int .u8 v)).heap[b]? = some (.cells (u8s (L.set i v)).toArray t (0, 0)) := by
  rw [← u8s_set]
  exact heap_setCell_same w b i _ _ _ h
theorem u8s_cell {w : World} {b : Nat} {L : List Int} {t : TypeId} (h : w.heap[b]? = some (.cells (u8s L).toArray t (0, 0))) {i : Nat} {v : Int} (hi : L[i]? = some v) : w.cell? ⟨b, i, none⟩ = some (.int .u8 v) ∧ w.frozen? ⟨b, i, none⟩ = false := by
  refine ⟨?_, by simp [World.frozen?, h]⟩
  simp [World.cell?, h, hi]
theorem SepW.blkTo {W w w' : World} {os : List Ob} (h : SepW W w os) (i : Nat) {b : Nat} {old cells : Array Value} {t : TypeId} (hi : os[i]? = some (obBlk b (.cells old t))) (hk : Keep (fun k => k = b) w w') (hb : w'.heap[b]? = some (.cells cells t (0, 0))) : SepW W w' (os.set i (obBlk b (.cells cells t))) :=
  h.set i hi hk (obBlk_good ..) hb (fun k hk => Or.inl hk)
attribute [local go_sem ↓] ex_rowLoad
set_option maxHeartbeats 2000000 in
theorem laid_any {w : World} {bv : Value} {xs : List Int} (hb : SlR w bv (u8s xs)) (h8 : U8 xs) (hl : xs.length ≤ 45) {ep pl : Int} (he : U1 ep) (hp : U1 pl) (part parts : Nat) (h1 : part ≤ 1000) (h2 : parts ≤ 1000) :
    Calls Tryz.prog 119 #[.agg #[.int .u64 ep, .int .u64 pl, .int .i64 part, .int .i64 parts, bv]] w fun e w' => ∃ v', e = .returned v' ∧ w'.ownsRow w.heap.size 5 1 v' 64 (u8s (laidB ep pl part parts xs)) ∧ Below w.heap.size w w' := by
  obtain ⟨bo, bc, rfl, _, _⟩ := id hb.form
  simp only [List.length_map] at hb ⊢
  have hs1 := (SepW.nil (Below.refl w.heap.size w)).newBlk #[.int .u64 ep, .int .u64 pl, .int .i64 part, .int .i64 parts, .slice bo xs.length bc] 179
  have hz : (w.alloc (.cells #[.int .u64 ep, .int .u64 pl, .int .i64 part, .int .i64 parts, .slice bo xs.length bc] 179)).heap.size = w.heap.size + 1 := by simp
  have hs2 := hs1.newBlk (u8s (List.replicate 56 0)).toArray 215
  rw [hz] at hs2
  have HS2 := Lib.hid hs2
  have HB := Lib.hid hb
  have H8 := Lib.hid h8
  clear hb h8 hs1 hs2
  go_enter Tryz.func119, Tryz.ntmps119
  go_wp2_with fail
  generalize w.heap.size = pb at *
  go_loopw [5] (fun i wr => ∃ k : Nat, k ≤ 4 ∧ i = .int .i64 k ∧ SepW w wr [obBlk (pb + 1) (.cells (u8s (z4 ep k ++ z4 pl k ++ List.replicate 48 0)).toArray 215), obBlk pb (.cells #[.int .u64 ep, .int .u64 pl, .int .i64 part, .int .i64 parts, .slice bo xs.length bc] 179)]) (fun i _ => 4 - (intOf i).toNat)
  case atStart => exact ⟨0, by omega, rfl, HS2.out⟩
  case round =>
    clear HS2
    obtain ⟨k, hk, rfl, hs⟩ := hrel
    have HS := Lib.hid hs
    have hbb : wr.heap[pb + 1]? = some (.cells (u8s (z4 ep k ++ z4 pl k ++ List.replicate 48 0)).toArray 215 (0, 0)) := hs.get 0 rfl
    have hpb : wr.heap[pb]? = some (.cells #[.int .u64 ep, .int .u64 pl, .int .i64 part, .int .i64 parts, .slice bo xs.length bc] 179 (0, 0)) := hs.get 1 rfl
    have p0 : wr.cell? ⟨pb, 0, none⟩ = some (.int .u64 ep) := by simp [World.cell?, hpb]
    have p1 : wr.cell? ⟨pb, 1, none⟩ = some (.int .u64 pl) := by simp [World.cell?, hpb]
    have p2 : wr.cell? ⟨pb, 2, none⟩ = some (.int .i64 part) := by simp [World.cell?, hpb]
    have p3 : wr.cell? ⟨pb, 3, none⟩ = some (.int .i64 parts) := by simp [World.cell?, hpb]
    have p4 : wr.cell? ⟨pb, 4, none⟩ = some (.slice bo xs.length bc) := by simp [World.cell?, hpb]
    clear hs hpb
    by_cases hlt : k < 4
    · rcases (by omega : k = 0 ∨ k = 1 ∨ k = 2 ∨ k = 3) with rfl | rfl | rfl | rfl
      · have hst := u8s_heap (u8s_heap hbb 0 (ep / 16777216 % 256)) 4 (pl / 16777216 % 256)
        have c1 := u8s_cell hbb (i := 0) (v := 0) rfl
        have c2 := u8s_cell hbb (i := 4) (v := 0) rfl
        have HSt := Lib.hid ((HS.out.blkTo 0 rfl ((cells_keep wr (pb + 1) 0 _).trans (cells_keep _ (pb + 1) 4 _)) hst).drew)
        obtain ⟨c1a, c1b⟩ := c1
        obtain ⟨c2a, c2b⟩ := c2
        clear hst hbb
        have n0 : IntKind.i64.wrap 0 = 0 := by decide
        have n1 : IntKind.i64.wrap 24 = 24 := by decide
        have n2 : IntKind.i64.wrap 4 = 4 := by decide
        go_wp2_with fail
        go_region_held3 (fun w' => w'.cell? ⟨pb, 0, none⟩ = some (.int .u64 ep) ∧ w'.cell? ⟨pb, 1, none⟩ = some (.int .u64 pl)) (go_keep) (fail)
        go_wp2_with fail
        go_roundw
        case rel => exact ⟨1, by omega, by go_num, HSt.out⟩
        case measure => simp [intOf]
      · have hst := u8s_heap (u8s_heap hbb 1 (ep / 65536 % 256)) 5 (pl / 65536 % 256)
        have c1 := u8s_cell hbb (i := 1) (v := 0) rfl
        have c2 := u8s_cell hbb (i := 5) (v := 0) rfl
        have HSt := Lib.hid ((HS.out.blkTo 0 rfl ((cells_keep wr (pb + 1) 1 _).trans (cells_keep _ (pb + 1) 5 _)) hst).drew)
        obtain ⟨c1a, c1b⟩ := c1
        obtain ⟨c2a, c2b⟩ := c2
        clear hst hbb
        have n0 : IntKind.i64.wrap 8 = 8 := by decide
        have n1 : IntKind.i64.wrap 16 = 16 := by decide
        have n2 : IntKind.i64.wrap 5 = 5 := by decide
        go_wp2_with fail
        go_region_held3 (fun w' => w'.cell? ⟨pb, 0, none⟩ = some (.int .u64 ep) ∧ w'.cell? ⟨pb, 1, none⟩ = some (.int .u64 pl)) (go_keep) (fail)
        go_wp2_with fail
        go_roundw
        case rel => exact ⟨2, by omega, by go_num, HSt.out⟩
        case measure => simp [intOf]
      · have hst := u8s_heap (u8s_heap hbb 2 (ep / 256 % 256)) 6 (pl / 256 % 256)
        have c1 := u8s_cell hbb (i := 2) (v := 0) rfl
        have c2 := u8s_cell hbb (i := 6) (v := 0) rfl
        have HSt := Lib.hid ((HS.out.blkTo 0 rfl ((cells_keep wr (pb + 1) 2 _).trans (cells_keep _ (pb + 1) 6 _)) hst).drew)
        obtain ⟨c1a, c1b⟩ := c1
        obtain ⟨c2a, c2b⟩ := c2
        clear hst hbb
        have n0 : IntKind.i64.wrap 16 = 16 := by decide
        have n1 : IntKind.i64.wrap 8 = 8 := by decide
        have n2 : IntKind.i64.wrap 6 = 6 := by decide
        go_wp2_with fail
        go_region_held3 (fun w' => w'.cell? ⟨pb, 0, none⟩ = some (.int .u64 ep) ∧ w'.cell? ⟨pb, 1, none⟩ = some (.int .u64 pl)) (go_keep) (fail)
        go_wp2_with fail
        go_roundw
        case rel => exact ⟨3, by omega, by go_num, HSt.out⟩
        case measure => simp [intOf]
      · have hst := u8s_heap (u8s_heap hbb 3 (ep % 256)) 7 (pl % 256)
        have c1 := u8s_cell hbb (i := 3) (v := 0) rfl
        have c2 := u8s_cell hbb (i := 7) (v := 0) rfl
        have HSt := Lib.hid ((HS.out.blkTo 0 rfl ((cells_keep wr (pb + 1) 3 _).trans (cells_keep _ (pb + 1) 7 _)) hst).drew)
        obtain ⟨c1a, c1b⟩ := c1
        obtain ⟨c2a, c2b⟩ := c2
        clear hst hbb
        have n0 : IntKind.i64.wrap 24 = 24 := by decide
        have n1 : IntKind.i64.wrap 0 = 0 := by decide
        have n2 : IntKind.i64.wrap 7 = 7 := by decide
        go_wp2_with fail
        go_region_held3 (fun w' => w'.cell? ⟨pb, 0, none⟩ = some (.int .u64 ep) ∧ w'.cell? ⟨pb, 1, none⟩ = some (.int .u64 pl)) (go_keep) (fail)
        go_wp2_with fail
        go_roundw
        case rel => exact ⟨4, by omega, by go_num, HSt.out⟩
        case measure => simp [intOf]
    · have : k = 4 := by omega
      subst this
      have hwp : IntKind.u8.wrap (part : Int) = (part : Int) % 256 := by simp [IntKind.wrap, IntKind.signed, IntKind.bits]
      have hwq : IntKind.u8.wrap (parts : Int) = (parts : Int) % 256 := by simp [IntKind.wrap, IntKind.signed, IntKind.bits]
      have hwr : IntKind.u8.wrap (xs.length : Int) = (xs.length : Int) % 256 := by simp [IntKind.wrap, IntKind.signed, IntKind.bits]
      have hst := u8s_heap (u8s_heap (u8s_heap hbb 8 ((part : Int) % 256)) 9 ((parts : Int) % 256)) 10 ((xs.length : Int) % 256)
      have hs4 := (HS.out.blkTo 0 rfl (((cells_keep wr (pb + 1) 8 _).trans (cells_keep _ (pb + 1) 9 _)).trans (cells_keep _ (pb + 1) 10 _)) hst).drew
      have HS4 := Lib.hid hs4
      obtain ⟨c1a, c1b⟩ := u8s_cell hbb (i := 8) (v := 0) rfl
      obtain ⟨c2a, c2b⟩ := u8s_cell hbb (i := 9) (v := 0) rfl
      obtain ⟨c3a, c3b⟩ := u8s_cell hbb (i := 10) (v := 0) rfl
      clear hst hbb hs4
      go_wp2_with fail
      go_region_held3 (fun w' => w'.cell? ⟨pb, 2, none⟩ = some (.int .i64 part) ∧ w'.cell? ⟨pb, 3, none⟩ = some (.int .i64 parts) ∧ w'.cell? ⟨pb, 4, none⟩ = some (.slice bo xs.length bc)) (go_keep) (fail)
      clear c1a c1b c2a c2b c3a c3b p0 p1 p2 p3 HS
      generalize hW4 : ((wr.setCell ⟨pb + 1, 8, none⟩ (.int .u8 ((part : Int) % 256))).setCell ⟨pb + 1, 9, none⟩ (.int .u8 ((parts : Int) % 256))).setCell ⟨pb + 1, 10, none⟩ (.int .u8 ((xs.length : Int) % 256)) = w4 at *
      clear hW4
      have hbb : w4.drew.heap[pb + 1]? = some (.cells (u8s ((((z4 ep 4 ++ z4 pl 4 ++ List.replicate 48 0).set 8 ((part : Int) % 256)).set 9 ((parts : Int) % 256)).set 10 ((xs.length : Int) % 256))).toArray 215 (0, 0)) := HS4.out.get 0 rfl
      have hpb : w4.drew.heap[pb]? = some (.cells #[.int .u64 ep, .int .u64 pl, .int .i64 part, .int .i64 parts, .slice bo xs.length bc] 179 (0, 0)) := HS4.out.get 1 rfl
      have p4 : w4.cell? ⟨pb, 4, none⟩ = some (.slice bo xs.length bc) := World.news_of_block (w := w4) hpb 4 _ rfl
      have hcp : ∃ w5, (∀ ty, (Builtin.copy_ #[27, 27] ty #[.slice (some ⟨pb + 1, 11, none⟩) 45 45, .slice bo xs.length bc]).run Tryz.prog w4.drew.drew = .ok (goInt xs.length) w5) ∧ w5.heap[pb + 1]? = some (.cells (u8s (laid56 ep pl part parts xs)).toArray 215 (0, 0)) ∧ Keep (fun k => k = pb + 1) w4.drew w5 := by
        have hL : ((((z4 ep 4 ++ z4 pl 4 ++ List.replicate 48 0).set 8 ((part : Int) % 256)).set 9 ((parts : Int) % 256)).set 10 ((xs.length : Int) % 256)) = (b4 ep ++ b4 pl ++ [(part : Int) % 256, (parts : Int) % 256, (xs.length : Int) % 256]) ++ List.replicate 45 0 := rfl
        rw [hL] at hbb
        have hP : (b4 ep ++ b4 pl ++ [(part : Int) % 256, (parts : Int) % 256, (xs.length : Int) % 256]).length = 11 := rfl
        have hl56 : laid56 ep pl part parts xs = (b4 ep ++ b4 pl ++ [(part : Int) % 256, (parts : Int) % 256, (xs.length : Int) % 256]) ++ (xs ++ List.replicate (45 - xs.length) 0) := rfl
        have hsl := HB.out.below HS4.out.below (Nat.le_refl _)
        generalize (b4 ep ++ b4 pl ++ [(part : Int) % 256, (parts : Int) % 256, (xs.length : Int) % 256]) = P at *
        cases bo with
        | none =>
          obtain ⟨hx, _⟩ := hsl.none
          have hx0 : xs = [] := by simpa using hx
          subst hx0
          refine ⟨w4.drew.drew, fun ty => run_copy_none _ 27 27 ty 5 _ _ 45 45 0 bc Tryz.underlying27 (by kernel_rfl) rfl, ?_, (Keep.refl _ _).drew⟩
          rw [hl56]
          exact hbb
        | some a =>
          have hbb2 : w4.drew.drew.heap[pb + 1]? = some (.cells (u8s (P ++ List.replicate 45 0)).toArray 215 (0, 0)) := hbb
          have hrun := fun ty => run_copy_row (P := Tryz.prog) w4.drew.drew 27 27 ty 5 (pb + 1) 11 45 45 a xs.length bc (u8s (P ++ List.replicate 45 0)).toArray 215 (u8s xs) Tryz.underlying27 (by kernel_rfl) hbb2 (by rw [List.length_map]; exact (Nat.min_eq_left hl).symm) (fun j u hj => hsl.cell j u hj) (by simp [hP]; omega) (u8s_one xs)
          have he : ((u8s (P ++ List.replicate 45 0)).toArray.toList.take 11 ++ u8s xs ++ (u8s (P ++ List.replicate 45 0)).toArray.toList.drop (11 + (u8s xs).length)).toArray = (u8s (laid56 ep pl part parts xs)).toArray := by
            have h1 : (u8s (P ++ List.replicate 45 0)).take 11 = u8s P := by rw [← List.map_take, List.take_append_of_le_length (by omega), List.take_of_length_le (by omega)]
            have h2 : (u8s (P ++ List.replicate 45 0)).drop (11 + (u8s xs).length) = u8s (List.replicate (45 - xs.length) 0) := by
              rw [← List.map_drop, List.length_map, List.drop_append, List.drop_eq_nil_of_le (by omega), hP, show 11 + xs.length - 11 = xs.length by omega, List.drop_replicate, List.nil_append]
            show ((u8s (P ++ List.replicate 45 0)).take 11 ++ u8s xs ++ (u8s (P ++ List.replicate 45 0)).drop (11 + (u8s xs).length)).toArray = _
            rw [h1, h2, hl56, ← List.map_append, ← List.map_append, List.append_assoc]
          refine ⟨w4.drew.drew.setRow (pb + 1) (u8s (laid56 ep pl part parts xs)).toArray, fun ty => ?_, ?_, (Keep.refl _ _).drew.trans (keep_setRowB w4.drew.drew (pb + 1) _)⟩
          · rw [hrun ty, he, List.length_map]
          · simp [World.setRow, Array.getElem?_modify, hbb2]
      obtain ⟨w5, hcp1, hcp2, hcp3⟩ := hcp
      have hcp := hcp1 3
      have HS5 := Lib.hid (HS4.out.blkTo 0 rfl hcp3 hcp2)
      have hS5 : w5.cell? ⟨pb, 4, none⟩ = some (.slice bo xs.length bc) := World.news_of_block (HS5.out.get 1 rfl : w5.heap[pb]? = some (.cells #[.int .u64 ep, .int .u64 pl, .int .i64 part, .int .i64 parts, .slice bo xs.length bc] 179 (0, 0))) 4 _ rfl
      clear hcp1 hcp2 hcp3 hbb hpb
      go_wp2_with fail
      go_region_held3 (fun w' => w'.cell? ⟨pb, 4, none⟩ = some (.slice bo xs.length bc)) (first | exact hS5 | go_keep) (fail)
      clear hcp hS5 p4
      have hl5 : (laid56 ep pl part parts xs).length = 56 := by simp [laid56, b4]; omega
      have hrow : SlR w5 (.slice (some ⟨pb + 1, 0, none⟩) 56 56) (u8s (laid56 ep pl part parts xs)) := by
        have hb : w5.heap[pb + 1]? = some (.cells (u8s (laid56 ep pl part parts xs)).toArray 215 (0, 0)) := HS5.out.get 0 rfl
        have hl : (u8s (laid56 ep pl part parts xs)).length = 56 := by rw [List.length_map, hl5]
        exact ⟨_, 56, by rw [hl], by rw [hl]; omega, by unfold maxLen; omega, fun i u hi => ⟨_, rfl, World.news_of_block hb i u (by simpa using hi)⟩⟩
      have hu8 : U8 (laid56 ep pl part parts xs) := by
        have hb4 : ∀ z : Int, U8 (b4 z) := fun z x hx => by simp only [b4, List.mem_cons, List.not_mem_nil, or_false] at hx; omega
        intro x hx
        simp only [laid56, List.mem_append, List.mem_cons, List.not_mem_nil, or_false] at hx
        rcases hx with ((hx | hx) | hx) | (hx | hx)
        · exact hb4 _ x hx
        · exact hb4 _ x hx
        · omega
        · exact H8.out x hx
        · have := List.eq_of_mem_replicate hx; omega
      have hrow4 := hrow.takeC 4 (by rw [List.length_map, hl5]; omega)
      have e4 : (u8s (laid56 ep pl part parts xs)).take 4 = u8s (b4 ep) := by rw [← List.map_take]; rfl
      rw [e4] at hrow4
      have HR4 := Lib.hid hrow4
      have HSe := Lib.hid (sealed_any (w := w5.drew) (hrow.below (Below.refl _ _).drew (Nat.le_refl _)) hu8 (by omega))
      have HL5 := Lib.hid hl5
      clear hrow hrow4 hu8 e4 hl5
      obtain ⟨i0, hi, hz0, hz1, hz2⟩ := info_parts Tryz.byteInfo
      go_wp2_with fail
      go_region_held3 (fun _ => True) (first | trivial | go_keep)
        (first
          | (go_at_call 138; (with_reducible refine HSe.out.mono ?_); rintro e w6 ⟨v6, rfl, ho6, hb6⟩
             have HO6 := Lib.hid ho6
             have HB6 := Lib.hid hb6
             clear ho6 hb6)
          | (refine step_appSrc rfl (.tmp 46) (.tmp 47) 27 rfl w5.drew.heap.size 5 i0 (.int .u8 0) 1 Tryz.underlying27 hi hz0 hz1 hz2 rfl (by decide) rfl rfl HO6.out (HR4.out.below ((Below.refl _ _).drew.trans HB6.out) (Nat.le_refl _)) (u8s_one _) (by simp [HL5.out, b4]) HB6.out.size ?_
             intro v7 w7 ho7 hb7 hg7 hk7 hn7
             have HO7 := Lib.hid ho7
             have HB7 := Lib.hid hb7
             clear ho7 hb7 hg7 hk7 hn7))
      all_goals
        go_wp2_with fail
        go_ret
        have hsz5 : w.heap.size ≤ w5.drew.heap.size := HS5.out.below.size
        have ho := HO7.out.weaken (base' := w.heap.size) hsz5
        rw [← List.map_append, HL5.out, List.length_map] at ho
        refine ⟨v7, rfl, ?_, ((HS5.out.below.drew.trans (HB6.out.mono hsz5))).trans (HB7.out.mono hsz5)⟩
        simpa [laidB, b4] using ho
end Go.Proofs.YtgmdedkingampaaGreat

namespace Go.Proofs.YtgmdedkingampaaGreat
open Go.RowKit Go.Shelf Go.Maps

attribute [local go_sem] Oper.semAt_some

/-- The k-th piece of n bytes from an address on. -/
def chkV (a : Addr) (n k : Nat) : Addr × Nat := (a.add (k * 45), min 45 (n - k * 45))
abbrev encP (x : Addr × Nat) : Value := .slice (some x.1) x.2 x.2
def chkL (a : Addr) (n d : Nat) : List (Addr × Nat) := (List.range d).map (chkV a n)
theorem chkL_succ (a : Addr) (n d : Nat) : chkL a n (d + 1) = chkL a n d ++ [chkV a n d] := by simp [chkL, List.range_succ]
theorem chkL_prefix (a : Addr) (n : Nat) {d e : Nat} (h : d ≤ e) : chkL a n d <+: chkL a n e := by
  obtain ⟨q, rfl⟩ := Nat.exists_eq_add_of_le h
  clear h
  induction q with
  | zero => exact List.prefix_refl _
  | succ q ih =>
    rw [show d + (q + 1) = (d + q) + 1 by omega, chkL_succ]
    exact List.IsPrefix.trans ih (List.prefix_append _ _)
set_option maxRecDepth 100000 in
set_option maxHeartbeats 2000000 in
theorem chunk1_in (n : Nat) (hn : 1 ≤ n) (l Bs Bk : Nat) (a : Addr) (m c : Nat) (hmc : m ≤ c) (hm : m ≤ 1000000) (hc : c ≤ 9223372036854775807)
    (S : Nat → Prop) (hB : ¬ S Bs) (hB2 : ¬ S Bk) (J Jx : List (Addr × Nat) → World → Prop)
    (hY : ∀ pre x W, J pre W → pre.length < (m + 44) / 45 → YieldAt Fence.wide (n - 1) Tryz.prog l #[encP x] W fun e W' =>
      (e = .returned (.bool true) ∧ J (pre ++ [x]) W' ∧ Keep S W W') ∨ (e = .returned (.bool false) ∧ Jx (pre ++ [x]) W'))
    (W : World) (hJa : AbidesFrom W.heap.size J) (hBs : W.cell? ⟨Bs, 0, none⟩ = some (.slice (some a) m c)) (hBk : W.cell? ⟨Bk, 0, none⟩ = some (.int .i64 45)) (h0 : J [] W) :
    CallsIn Fence.wide n Tryz.prog 135 #[.func (.yield l) #[] #[], .pointer (some ⟨Bs, 0, none⟩), .pointer (some ⟨Bk, 0, none⟩)] W fun e W' => (∃ v, e = .returned v) ∧
      ((∃ ys, ys = chkL a m ((m + 44) / 45) ∧ J ys W') ∨ (∃ pre, pre <+: chkL a m ((m + 44) / 45) ∧ Jx pre W')) := by
  have HA : Hid (∀ s w n, J s w → J s (w.drewN n)) := Lib.hid (fun s w n h => hJa s w _ none h ⟨rfl, rfl, rfl, Nat.le_refl _, fun _ _ _ => rfl⟩ (fun r e => by cases e))
  have HY := Lib.hid hY
  have HBs := Lib.hid hBs
  have HBk := Lib.hid hBk
  have H0 := Lib.hid h0
  clear hY h0 hJa
  have hro : Fence.wide.round = none := rfl
  refine callsIn_of_wp Tryz.func135 rfl trivial ?_ hro
  simp only [Tryz.ntmps135, List.size_toArray, List.length_cons, List.length_nil, Nat.reduceAdd, Nat.reduceSub, Array.replicate_succ, Array.replicate_zero, List.push_toArray, List.append_toArray, List.nil_append, List.cons_append]
  gi_wp2
  clear hBs hBk
  gi_loopw [4] (fun p wr => ∃ d : Nat, p = .int .i64 ((d * 45 : Nat) : Int) ∧ d ≤ (m + 44) / 45 ∧ J (chkL a m d) wr ∧ Keep S W wr)
    (fun p _ => 1000045 - (intOf p).toNat)
  case atStart => exact ⟨0, rfl, by omega, H0.out, Keep.refl _ _⟩
  case round =>
    obtain ⟨d, rfl, hd, hJ, hkw⟩ := hrel
    have hcs := hkw.cell HBs.out hB
    have hck := hkw.cell HBk.out hB2
    have HJ := Lib.hid hJ
    have HKw := Lib.hid hkw
    clear hJ hkw
    by_cases hlt : d * 45 < m
    · have hlt2 : ((d * 45 : Nat) : Int) < (m : Int) := by omega
      have hk1 : ((d * 45 : Nat) : Int) ≤ (m : Int) := by omega
      have hk2 : ((d * 45 : Nat) : Int) ≤ (c : Int) := by omega
      have hk3 : (0 : Int) ≤ ((d * 45 : Nat) : Int) := by omega
      have hk4 : d * 45 ≤ m := by omega
      have hk5 : d * 45 ≤ c := by omega
      have HL := Lib.hid hlt
      have HD := Lib.hid hd
      clear hlt hd
      obtain ⟨K, hK⟩ : ∃ K, d * 45 = K := ⟨_, rfl⟩
      have HK := Lib.hid hK
      simp only [hK] at hlt2 hk1 hk2 hk3 hk4 hk5 ⊢
      clear hK
      obtain ⟨E, hE⟩ : ∃ E, min 45 (m - K) = E := ⟨_, rfl⟩
      have hmin : min (45 : Int) ((m - K : Nat) : Int) = (E : Int) := by omega
      have hKE : K + E ≤ m := by omega
      have hKE1 : ((K : Int) + (E : Int)) ≤ (c : Int) := by omega
      have hwr : IntKind.i64.wrap ((K : Int) + (E : Int)) = ((K + E : Nat) : Int) := by rw [show (K : Int) + (E : Int) = ((K + E : Nat) : Int) by omega]; exact IntWalk.i64_in _ (by constructor <;> omega)
      have hk6 : ((K + E : Nat) : Int) ≤ (c : Int) := by omega
      have hk7 : (0 : Int) ≤ ((K + E : Nat) : Int) := by omega
      have hk8 : K ≤ K + E := by omega
      have hk9 : K + E ≤ c := by omega
      have HE := Lib.hid hE
      clear hE
      gi_wp2
      gi_quiet (fail)
      have hx : chkV a m d = (a.add K, E) := by unfold chkV; rw [HK.out, HE.out]
      have hJ2 := HA.out _ _ nq HJ.out
      have hlen : (chkL a m d).length < (m + 44) / 45 := by have := HL.out; simp only [chkL, List.length_map, List.length_range]; omega
      obtain ⟨fn, tmps, assign, body, hy, hR⟩ := HY.out _ (chkV a m d) _ hJ2 hlen
      rw [hx] at hy hR
      have HR := Lib.hid hR
      have HX := Lib.hid hx
      clear hR hJ2 hlen hx
      gi_wp2
      refine HR.out.mono ?_
      rintro e W3 (⟨rfl, hJ3, hk3⟩ | ⟨rfl, hJx3⟩)
      · have hK3 : Keep S W W3 := ((HKw.out.drewN nq)).trans hk3
        have hck3 := hK3.cell HBk.out hB2
        have hcs3 := hK3.cell HBs.out hB
        have HJ3 := Lib.hid hJ3
        have HK3 := Lib.hid hK3
        have hw45 : IntKind.i64.wrap ((K : Int) + 45) = (((d + 1) * 45 : Nat) : Int) := by rw [show (K : Int) + 45 = (((d + 1) * 45 : Nat) : Int) by have := HK.out; omega]; exact IntWalk.i64_in _ (by have := HK.out; constructor <;> omega)
        have HK1 : Hid (K ≤ 1000000) := Lib.hid (by omega)
        clear hJ3 hK3 hk3
        gi_wp2
        go_roundw
        case rel => exact ⟨d + 1, rfl, by have := HL.out; omega, by rw [chkL_succ, HX.out]; exact HJ3.out, HK3.out⟩
        case measure =>
          have := HK.out
          have := HK1.out
          simp [intOf]
          omega
      · have HJx3 := Lib.hid hJx3
        clear hJx3
        gi_wp2
        refine bodyPost_ret (results_none rfl _ _ _) rfl ?_
        refine ⟨⟨_, rfl⟩, .inr ⟨chkL a m (d + 1), chkL_prefix a m (by have := HL.out; omega), ?_⟩⟩
        rw [chkL_succ, HX.out]
        exact HJx3.out
    · have hde : d = (m + 44) / 45 := by omega
      have HD := Lib.hid hde
      clear hde
      gi_wp2
      go_end0
      rw [← HD.out]
      exact ⟨⟨_, rfl⟩, .inl ⟨_, rfl, HJ.out⟩⟩
theorem chunk_stops (n : Nat) (hn : 1 ≤ n) (Bs Bk : Nat) (a : Addr) (m c : Nat) (hmc : m ≤ c) (hm : m ≤ 1000000) (hc : c ≤ 9223372036854775807) (S : Nat → Prop) {w1 : World} (hB : ¬ S Bs) (hB2 : ¬ S Bk)
    (hBs : w1.cell? ⟨Bs, 0, none⟩ = some (.slice (some a) m c)) (hBk : w1.cell? ⟨Bk, 0, none⟩ = some (.int .i64 45)) :
    SeqStopsK Fence.wide n Tryz.prog 135 #[.pointer (some ⟨Bs, 0, none⟩), .pointer (some ⟨Bk, 0, none⟩)] (fun x : Addr × Nat => #[encP x]) (Keep S) (fun ys => ys = chkL a m ((m + 44) / 45)) (fun pre => pre <+: chkL a m ((m + 44) / 45)) ((m + 44) / 45) w1 := fun l J Jx W hW hJa _ hY h0 =>
  chunk1_in n hn l Bs Bk a m c hmc hm hc S hB hB2 J Jx hY W hJa ((hW.cell (p := ⟨Bs, 0, none⟩) (World.block_lt_of_cell? _ _ hBs)).trans hBs) ((hW.cell (p := ⟨Bk, 0, none⟩) (World.block_lt_of_cell? _ _ hBk)).trans hBk) h0
theorem chunk_any (ao : Option Addr) (m c : Nat) (w : World) : Calls Tryz.prog 117 #[.slice ao m c, .int .i64 45] w fun e w' => e = .returned (.func (.func 135) #[] #[.pointer (some ⟨w.heap.size, 0, none⟩), .pointer (some ⟨w.heap.size + 1, 0, none⟩)]) ∧ w' = (w.alloc (.cells #[.slice ao m c] 27)).alloc (.cells #[.int .i64 45] 3) := by
  go_enter Tryz.func117, Tryz.ntmps117
  go_wp2
  go_ret
  exact ⟨rfl, rfl⟩
theorem Tryz.sliceInfo8 : (Tryz.prog.info? 27).map (fun i => (i.zero, i.size, i.bytes)) = some (some (.slice none 0 0), 1, 24) := by kernel_rfl
set_option maxRecDepth 100000 in
set_option maxHeartbeats 2000000 in
theorem appSeq_in (n : Nat) (hn : 3 ≤ n) (w : World) (Bs Bk : Nat) (a : Addr) (m c : Nat) (hmc : m ≤ c) (hm : m ≤ 1000000) (hc : c ≤ 9223372036854775807) (hBs : w.cell? ⟨Bs, 0, none⟩ = some (.slice (some a) m c)) (hBk : w.cell? ⟨Bk, 0, none⟩ = some (.int .i64 45)) :
    CallsIn Fence.wide n Tryz.prog 134 #[.slice none 0 0, .func (.func 135) #[] #[.pointer (some ⟨Bs, 0, none⟩), .pointer (some ⟨Bk, 0, none⟩)]] w fun e W' => ∃ v, e = .returned v ∧ W'.ownsRow w.heap.size 27 1 v ((m + 44) / 45) ((chkL a m ((m + 44) / 45)).map encP) ∧ Below w.heap.size w W' := by
  have h1 : 1 ≤ n := by omega
  have hro : Fence.wide.round = none := rfl
  obtain ⟨i0, hi, hz0, hz1, hz2⟩ := info_parts Tryz.sliceInfo8
  refine callsIn_of_wp_marks Tryz.func134 rfl trivial ?_ hro
  simp only [Tryz.ntmps134, List.size_toArray, List.length_cons, List.length_nil, Nat.reduceAdd, Nat.reduceSub, Array.replicate_succ, Array.replicate_zero, List.push_toArray, List.append_toArray, List.nil_append, List.cons_append]
  gi_wp2
  have bO := Boxed.new w 22 (.slice none 0 0)
  have hB0 : Below w.heap.size w (w.alloc (.cells #[.slice none 0 0] 22)) := (Below.refl _ w).alloc (Nat.le_refl _) _
  have hs1 : (w.alloc (.cells #[.slice none 0 0] 22)).heap.size = w.heap.size + 1 := by simp
  have hBs1 : (w.alloc (.cells #[.slice none 0 0] 22)).cell? ⟨Bs, 0, none⟩ = some (.slice (some a) m c) := (World.cell?_alloc_lt _ _ _ (World.block_lt_of_cell? _ _ hBs)).trans hBs
  have hBk1 : (w.alloc (.cells #[.slice none 0 0] 22)).cell? ⟨Bk, 0, none⟩ = some (.int .i64 45) := (World.cell?_alloc_lt _ _ _ (World.block_lt_of_cell? _ _ hBk)).trans hBk
  have hls : Bs < w.heap.size := World.block_lt_of_cell? w _ hBs
  have hlk : Bk < w.heap.size := World.block_lt_of_cell? w _ hBk
  generalize w.alloc (.cells #[.slice none 0 0] 22) = w3 at *
  refine wpIn_rangeFunc_ownG hro h1 (gf := 135) (lb := #[.pointer (some ⟨Bs, 0, none⟩), .pointer (some ⟨Bk, 0, none⟩)]) rfl trivial (enters_of Tryz.func135 (by kernel_rfl) rfl)
    (chunk_stops (n - 1) (by omega) Bs Bk a m c hmc hm hc (fun k => w.heap.size ≤ k) (by omega) (by omega) hBs1 hBk1)
    (fun a b => Keep.trans a b) (fun W l o o' hl hlo _ _ => Keep.grown (grownBy_putObj' W l o') (fun k e => by cases e; omega)) (Below.refl _ _) (fun _ => rfl)
    (fun pre W => (∃ v, Boxed W w.heap.size 22 v ∧ W.ownsRow w.heap.size 27 1 v pre.length (pre.map encP) ∧ True) ∧ Below w.heap.size w W)
    (fun c pre W => (∃ v, Boxed W w.heap.size 22 v ∧ W.ownsRow w.heap.size 27 1 v pre.length (pre.map encP) ∧ False) ∧ Below w.heap.size w W)
    (OwnFrom.and (Own.from (holdsRow_own w.heap.size w.heap.size 22 27 1 (fun pre : List (Addr × Nat) => pre.length) (fun pre => pre.map encP) (fun pre v => True)) _) (ownFrom_below (Nat.le_refl _) (by omega)))
    (fun c => OwnFrom.and (Own.from (holdsRow_own w.heap.size w.heap.size 22 27 1 (fun pre : List (Addr × Nat) => pre.length) (fun pre => pre.map encP) (fun pre v => False)) _) (ownFrom_below (Nat.le_refl _) (by omega)))
    ⟨⟨_, bO, World.ownsRow_nil _ _ _ _, trivial⟩, hB0⟩
    (fun x => { tmps := #[.slice none 0 0, Value.func (Fn.func 135) #[] #[.pointer (some ⟨Bs, 0, none⟩), .pointer (some ⟨Bk, 0, none⟩)], .pointer (some ⟨w.heap.size, 0, none⟩), undef, .slice none 0 0, encP x, Value.func (Fn.func 135) #[] #[.pointer (some ⟨Bs, 0, none⟩), .pointer (some ⟨Bk, 0, none⟩)], encP x, undef, undef, undef, undef, undef], defers := [] }) ?assign ?body ?done ?stop
  case assign =>
    intro l x W K hK
    gi_wp2
    exact hK
  case body =>
    rintro l pre x W ⟨⟨v, hv, hrow, _⟩, hB⟩ hlt
    have hc := hv.cell
    have hrv := hv.not_row (by decide) hrow
    have HC := Lib.hid hrow
    have HV := Lib.hid hv
    have HB := Lib.hid hB
    obtain ⟨xa, xn⟩ := x
    have hpl : pre.length ≤ 1000000 := by omega
    clear hrow hv
    gi_wp2_with (gi_at_builtin; refine wpListIn_append_own _ rfl _ _ 22 rfl w.heap.size 27 i0 (.slice none 0 0) 1 24 Tryz.underlying22 hi hz0 hz1 hz2 rfl (by decide) _ _ _ rfl (HC.out.alloc _) ⟨W.heap.size, 0, none⟩ 1 1 [encP (xa, xn)] rfl rfl (cell_one_new _ _ _) (by simp [Value.oneCell']) (by unfold maxLen; omega) (by omega) (by have := hB.size; simp; omega) ?_; intro v' w1 hown' hgrow _; obtain ⟨g', cap', rfl⟩ := ownsRow_succ hown'; obtain ⟨hv1, hv2, hr2, hk2, hb2⟩ := HV.out.appended (by decide) HC.out hB.size (by omega) hown' hgrow; have hc1 := hv1.cell; have hf1 := hv1.frozen; have hk8 := hv2.cell)
    exact ⟨hk2.from _, Below.keep hb2 (fun k _ h => h), ⟨_, hv2, by simpa using hr2, trivial⟩, hB.trans hb2⟩
  case done =>
    rintro D ys W hD rfl ⟨⟨v, hv, hrow, _⟩, hB⟩ hK
    have hc := hv.cell
    gi_wp2
    refine ⟨by simp, .inl ⟨_, _, rfl, run_takeDeferred hK, ?_⟩⟩
    refine ⟨_, results_tmp rfl _ _ _, v, rfl, ?_, hB.trans (belowK_b (w := w) (Nat.le_refl _) W D _ _ (by omega) hK rfl rfl)⟩
    have := ownsRow_putObj hrow (.deferred none) hK rfl
    simpa [chkL] using this
  case stop =>
    rintro D c pre W hD hp ⟨⟨v, hv, hrow, hf⟩, hB⟩ hK
    exact hf.elim
set_option maxHeartbeats 1000000 in
theorem collect_in (n : Nat) (hn : 4 ≤ n) (w : World) (Bs Bk : Nat) (a : Addr) (m c : Nat) (hmc : m ≤ c) (hm : m ≤ 1000000) (hc : c ≤ 9223372036854775807) (hBs : w.cell? ⟨Bs, 0, none⟩ = some (.slice (some a) m c)) (hBk : w.cell? ⟨Bk, 0, none⟩ = some (.int .i64 45)) :
    CallsIn Fence.wide n Tryz.prog 116 #[.func (.func 135) #[] #[.pointer (some ⟨Bs, 0, none⟩), .pointer (some ⟨Bk, 0, none⟩)]] w fun e W' => ∃ v, e = .returned v ∧ W'.ownsRow w.heap.size 27 1 v ((m + 44) / 45) ((chkL a m ((m + 44) / 45)).map encP) ∧ Below w.heap.size w W' := by
  have hro : Fence.wide.round = none := rfl
  have h1 : 1 ≤ n := by omega
  have hfn : Fence.wide.fn 134 := trivial
  have HA := Lib.hid (appSeq_in (n - 1) (by omega) w Bs Bk a m c hmc hm hc hBs hBk)
  clear hBs hBk
  refine callsIn_of_wp Tryz.func116 rfl trivial ?_ hro
  simp only [Tryz.ntmps116, List.size_toArray, List.length_cons, List.length_nil, Nat.reduceAdd, Nat.reduceSub, Array.replicate_succ, Array.replicate_zero, List.push_toArray, List.append_toArray, List.nil_append, List.cons_append]
  gi_wp2_with (gi_at_call 134; refine HA.out.mono ?_; rintro e w' ⟨v, rfl, ho, hb⟩)
  go_ret
  exact ⟨v, rfl, ho, hb⟩
theorem collect_any (w : World) (Bs Bk : Nat) (a : Addr) (m c : Nat) (hmc : m ≤ c) (hm : m ≤ 1000000) (hc : c ≤ 9223372036854775807) (hBs : w.cell? ⟨Bs, 0, none⟩ = some (.slice (some a) m c)) (hBk : w.cell? ⟨Bk, 0, none⟩ = some (.int .i64 45)) :
    Calls Tryz.prog 116 #[.func (.func 135) #[] #[.pointer (some ⟨Bs, 0, none⟩), .pointer (some ⟨Bk, 0, none⟩)]] w fun e W' => ∃ v, e = .returned v ∧ W'.ownsRow w.heap.size 27 1 v ((m + 44) / 45) ((chkL a m ((m + 44) / 45)).map encP) ∧ Below w.heap.size w W' :=
  callsIn_wide.1 (collect_in 4 (Nat.le_refl _) w Bs Bk a m c hmc hm hc hBs hBk)
end Go.Proofs.YtgmdedkingampaaGreat

namespace Go.Proofs.YtgmdedkingampaaGreat
open Go.ChangeShapes Go.WideShapes Go.ChangeAt Go.RowKit Go.Maps
set_option maxRecDepth 100000
set_option linter.unusedVariables false
set_option linter.unusedSimpArgs false

def need (n : Nat) : Nat := max ((n + 44) / 45) 1
theorem SgR.setE {D : Nat → Prop} {w : World} {b0 s0 : Nat} {lv : Value} {vs : List Value} {s : Sg} (h : SgR w D b0 s0 lv vs s) (er : Int) : SgR (w.setCell ⟨s0, 8, none⟩ (.int .i64 er)) D b0 s0 lv vs { s with e := er } := by
  have hk := cells_keep w s0 8 (.int .i64 er)
  have hb : ∀ k, D k → k ≠ s0 → (w.setCell ⟨s0, 8, none⟩ (.int .i64 er)).heap[k]? = w.heap[k]? := fun k hd hn => hk.block k (h.lt k hd) hn
  exact ⟨by simpa using heap_setCell_same w s0 8 _ _ (.int .i64 er) h.cells, own_keep h.own (fun k hv => hb k (h.dl k hv).1 (h.dl k hv).2), h.vals.keep hk (fun u hu k hk' e => (h.off u hu k hk').2.1 e), h.off, fun k hd => Nat.lt_of_lt_of_le (h.lt k hd) hk.size, h.d0, h.dl, ⟨h.ok.nums, h.ok.epoch, h.ok.u8, h.ok.few⟩⟩
theorem SgR.app {D : Nat → Prop} {w6 w7 w8 : World} {b0 s0 : Nat} {lv : Value} {vs : List Value} {s : Sg} (h : SgR w6 D b0 s0 lv vs s) {cv : Value} {xs : List Int} {B : Nat} (hcv : w6.ownsRow B 5 1 cv xs.length (u8s xs)) (hB : ∀ k, D k → k < B) (hb7 : Below w6.heap.size w6 w7)
    {g cap m : Nat} (hown : w8.ownsRow 0 27 1 (.slice (some ⟨g, 0, none⟩) (s.l.length + 1) cap) (s.l.length + 1) (vs ++ [cv])) (hb8 : Below 0 w7 w8) (hg : lv.ownBlock = some g ∨ w7.heap.size ≤ g) (hk : ∀ k, k < w7.heap.size → some k ≠ lv.ownBlock → w8.heap[k]? = w7.heap[k]?)
    (h8 : U8 xs) (hl : xs.length ≤ 4096) (hf : s.l.length < 65536) (hm : s.used + m ≤ s.n) :
    SgR ((w8.setCell ⟨s0, 4, none⟩ (.slice (some ⟨g, 0, none⟩) (s.l.length + 1) cap)).setCell ⟨s0, 5, none⟩ (.int .i64 ((s.used + m : Nat) : Int))) (fun k => D k ∨ k = g ∨ cv.ownBlock = some k) b0 s0 (.slice (some ⟨g, 0, none⟩) (s.l.length + 1) cap) (vs ++ [cv]) { s with l := s.l ++ [xs], used := s.used + m } ∧
    Keep D w6 ((w8.setCell ⟨s0, 4, none⟩ (.slice (some ⟨g, 0, none⟩) (s.l.length + 1) cap)).setCell ⟨s0, 5, none⟩ (.int .i64 ((s.used + m : Nat) : Int))) ∧ ∀ k, (D k ∨ k = g ∨ cv.ownBlock = some k) → D k ∨ B ≤ k ∨ w6.heap.size ≤ k := by
  have hd0 := h.d0
  have hK0 : Keep (fun k => k = s0 ∨ lv.ownBlock = some k) w6 ((w8.setCell ⟨s0, 4, none⟩ (.slice (some ⟨g, 0, none⟩) (s.l.length + 1) cap)).setCell ⟨s0, 5, none⟩ (.int .i64 ((s.used + m : Nat) : Int))) := by
    have h1 : Keep (fun k => k = s0 ∨ lv.ownBlock = some k) w6 w8 :=
      ⟨hb8.os.trans hb7.os, hb8.tape.trans hb7.tape, hb8.output.trans hb7.output, Nat.le_trans hb7.size hb8.size, fun k hk' hn => (hk k (Nat.lt_of_lt_of_le hk' hb7.size) (fun e => hn (Or.inr e.symm))).trans (hb7.block k hk')⟩
    exact (h1.setCell (p := ⟨s0, 4, none⟩) (Or.inl (Or.inl rfl)) _).setCell (p := ⟨s0, 5, none⟩) (Or.inl (Or.inl rfl)) _
  have hK : Keep D w6 _ := hK0.mono (fun k _ e => by
    rcases e with rfl | e
    · exact hd0
    · exact (h.dl k e).1)
  have hgs : g ≠ s0 := by
    rcases hg with e | e
    · exact (h.dl g e).2
    · have := h.lt _ hd0; have := hb7.size; omega
  have hc8 : w8.heap[s0]? = some (.cells #[.pointer (some ⟨b0, 0, none⟩), .int .i64 s.fr, .int .i64 s.n, .int .u64 s.epoch, lv, .int .i64 s.used, .int .i64 s.sure, .int .i64 s.gone, .int .i64 s.e] 175 (0, 0)) :=
    (hk s0 (Nat.lt_of_lt_of_le (h.lt _ hd0) hb7.size) (fun e => (h.dl s0 e.symm).2 rfl)).trans ((hb7.block s0 (h.lt _ hd0)).trans h.cells)
  have hcvB : ∀ k, cv.ownBlock = some k → B ≤ k ∧ k < w6.heap.size := fun k e => hcv.lt k e
  have hs67 := hb7.size
  have hsz8 : ((w8.setCell ⟨s0, 4, none⟩ (.slice (some ⟨g, 0, none⟩) (s.l.length + 1) cap)).setCell ⟨s0, 5, none⟩ (.int .i64 ((s.used + m : Nat) : Int))).heap.size = w8.heap.size := by simp [World.setCell]
  refine ⟨⟨?_, ?_, ?_, ?_, ?_, Or.inl hd0, ?_, ?_⟩, hK, ?_⟩
  · have b1 := heap_setCell_same w8 s0 4 _ _ (.slice (some ⟨g, 0, none⟩) (s.l.length + 1) cap) hc8
    have b2 := heap_setCell_same _ s0 5 _ _ (.int .i64 ((s.used + m : Nat) : Int)) b1
    simpa using b2
  · simp only [List.length_append, List.length_cons, List.length_nil]
    exact own_keep hown (fun k e => by
      cases e
      rw [Below.heap_setCell _ _ _ _ hgs, Below.heap_setCell _ _ _ _ hgs])
  · refine ValsK.snoc (h.vals.keep hK0 (fun u hu k hk' e => ?_)) ((SlR.of_own hcv).keep hK0 (fun k hk' e => ?_))
    · rcases e with rfl | e
      · exact (h.off u hu k hk').2.1 rfl
      · exact (h.off u hu k hk').2.2 e
    · have h1 := hcvB k hk'
      rcases e with rfl | e
      · have := hB _ hd0; omega
      · have := hB _ (h.dl k e).1; omega
  · intro u hu k hk'
    rcases List.mem_append.1 hu with hu | hu
    · have ho := h.off u hu k hk'
      refine ⟨Or.inl ho.1, ho.2.1, fun e => ?_⟩
      have e' : g = k := by simpa [Value.ownBlock] using e
      subst e'
      rcases hg with e | e
      · exact ho.2.2 e
      · have := h.lt _ ho.1; omega
    · have := List.mem_singleton.1 hu
      subst this
      have h1 := hcvB k hk'
      refine ⟨Or.inr (Or.inr hk'), fun e => by have := hB _ hd0; omega, fun e => ?_⟩
      have e' : g = k := by simpa [Value.ownBlock] using e
      subst e'
      rcases hg with e | e
      · have := hB _ (h.dl _ e).1; omega
      · omega
  · intro k hk'
    rw [hsz8]
    rcases hk' with e | rfl | e
    · have := h.lt k e; have := hb8.size; omega
    · exact (hown.lt k rfl).2
    · have := hcvB k e; have := hb8.size; omega
  · intro k e
    cases e
    exact ⟨Or.inr (Or.inl rfl), hgs⟩
  · have hok := h.ok
    exact ⟨⟨hok.nums.1, hok.nums.2.1, hm, hok.nums.2.2.2⟩, hok.epoch, fun r hr => by
      rcases List.mem_append.1 hr with hr | hr
      · exact hok.u8 r hr
      · have := List.mem_singleton.1 hr; subst this; exact ⟨h8, hl⟩, by simp only [List.length_append, List.length_cons, List.length_nil]; omega⟩
  · intro k e
    rcases e with e | rfl | e
    · exact Or.inl e
    · rcases hg with e | e
      · exact Or.inl (h.dl k e).1
      · exact Or.inr (Or.inr (Nat.le_trans hs67 e))
    · exact Or.inr (Or.inl (hcvB k e).1)
theorem need_any (n : Nat) (hn : n ≤ 1000000) (w : World) : Calls Tryz.prog 114 #[.int .i64 n] w fun e w' => e = .returned (.int .i64 (need n : Nat)) ∧ w = w' := by
  have h1 : IntKind.i64.wrap ((n : Int) + 45) = (n : Int) + 45 := IntWalk.i64_in _ (by constructor <;> omega)
  have h2 : IntKind.i64.wrap ((n : Int) + 45 - 1) = (n : Int) + 44 := by rw [show (n : Int) + 45 - 1 = (n : Int) + 44 by omega]; exact IntWalk.i64_in _ (by constructor <;> omega)
  have h3 : ((n : Int) + 44).tdiv 45 = (((n + 44) / 45 : Nat) : Int) := by
    rw [show (n : Int) + 44 = ((n + 44 : Nat) : Int) by omega]
    rfl
  have h4 : max (((n + 44) / 45 : Nat) : Int) 1 = ((need n : Nat) : Int) := by unfold need; omega
  have h5 : max (((n : Int) + 44) / 45) 1 = ((need n : Nat) : Int) := by unfold need; omega
  go_enter Tryz.func114, Tryz.ntmps114
  go_wp2_with fail
  go_ret
  exact ⟨rfl, rfl⟩
section
variable {W w : World} {os : List Ob} {b0 s0 : Nat} {Ds : Nat → Prop} {s : Sg}
theorem SepW.sgLen (h : SepW W w os) (j : Nat) (hj : os[j]? = some (obSg b0 s0 Ds s)) : Calls Tryz.prog 64 #[.pointer (some ⟨s0, 0, none⟩)] w fun e w' => e = .returned (.int .i64 s.l.length) ∧ w = w' := by
  obtain ⟨lv, vs, hs⟩ := (h.get j hj : SgO b0 s0 Ds w s)
  obtain ⟨⟨c0, c1, c2, c3, c4, c5, c6, c7, c8⟩, _⟩ := hs.cell
  obtain ⟨lo, lc, rfl, _, _⟩ := own_form hs.own
  clear h hj hs
  go_enter Tryz.func64, Tryz.ntmps64
  go_wp2_with fail
  go_ret
  exact ⟨rfl, rfl⟩
theorem SepW.sgFree (h : SepW W w os) (j : Nat) (hj : os[j]? = some (obSg b0 s0 Ds s)) : Calls Tryz.prog 115 #[.pointer (some ⟨s0, 0, none⟩)] w fun e w' => e = .returned (.int .i64 ((s.n - s.used : Nat) : Int)) ∧ Drew w w' := by
  obtain ⟨lv, vs, hs⟩ := (h.get j hj : SgO b0 s0 Ds w s)
  obtain ⟨⟨c0, c1, c2, c3, c4, c5, c6, c7, c8⟩, _⟩ := hs.cell
  have hok := hs.ok.nums
  have hw : IntKind.i64.wrap ((s.n : Int) - (s.used : Int)) = ((s.n - s.used : Nat) : Int) := by rw [show (s.n : Int) - (s.used : Int) = ((s.n - s.used : Nat) : Int) by omega]; exact IntWalk.i64_in _ (by constructor <;> omega)
  clear h hj hs hok
  go_enter Tryz.func115, Tryz.ntmps115
  go_wp2_with fail
  go_quiet (fail)
  go_wp2_with fail
  go_ret
  exact ⟨rfl, Drew.of w nq⟩
/-- Writes one behind the other, till one fails. -/
def wrs (f : Nat → List Int) (base : Nat) : Nat → Nat → Dk → Int × Dk
  | _, 0, d => (0, d)
  | i, r + 1, d => if (dkWr d (base + i) (f i)).1 = 0 then wrs f base (i + 1) r (dkWr d (base + i) (f i)).2 else dkWr d (base + i) (f i)
def piece (xs : List Int) (k : Nat) : List Int := (xs.drop (k * 45)).take 45
def partB (s : Sg) (xs : List Int) (k : Nat) : List Int := laidB s.epoch ((s.l.length : Int) + 1) k (need xs.length) (piece xs k)
def dAt (f : Nat → List Int) (base : Nat) (d : Dk) : Nat → Dk
  | 0 => d
  | k + 1 => (dkWr (dAt f base d k) (base + k) (f k)).2
theorem wrs_at (f : Nat → List Int) (base : Nat) (d : Dk) : ∀ (k r : Nat), (∀ j, j < k → (dkWr (dAt f base d j) (base + j) (f j)).1 = 0) → wrs f base 0 (k + r) d = wrs f base k r (dAt f base d k) := by
  intro k
  induction k with
  | zero => intro r _; rw [Nat.zero_add]; rfl
  | succ k ih =>
    intro r h
    rw [show k + 1 + r = k + (r + 1) by omega, ih (r + 1) (fun j hj => h j (by omega))]
    show (if _ then _ else _) = _
    rw [if_pos (h k (by omega))]
    rfl
theorem dkWr_len (d : Dk) (i : Nat) (b : List Int) : (dkWr d i b).2.l = d.l ∧ (dkWr d i b).2.waits.length ≤ d.waits.length + 1 := by
  unfold dkWr
  split
  · exact ⟨rfl, by simp⟩
  · split
    · exact ⟨rfl, by simp⟩
    · exact ⟨rfl, by simp⟩
theorem dAt_len (f : Nat → List Int) (base : Nat) (d : Dk) : ∀ k, (dAt f base d k).l = d.l ∧ (dAt f base d k).waits.length ≤ d.waits.length + k := by
  intro k
  induction k with
  | zero => exact ⟨rfl, by simp [dAt]⟩
  | succ k ih =>
    have := dkWr_len (dAt f base d k) (base + k) (f k)
    exact ⟨this.1.trans ih.1, by have := this.2; have := ih.2; show (dkWr _ _ _).2.waits.length ≤ _; omega⟩
theorem piece_row {w : World} {a : Addr} {c : Nat} {xs : List Int} (h : SlR w (.slice (some a) xs.length c) (u8s xs)) {k : Nat} (hk : k * 45 < xs.length) : SlR w (encP (chkV a xs.length k)) (u8s (piece xs k)) := by
  have h1 := h.drop' (k * 45)
  rw [← List.map_drop] at h1
  have h2 := h1.take (min 45 (xs.length - k * 45)) (by rw [List.length_map, List.length_drop]; omega)
  rw [← List.map_take] at h2
  have e : (xs.drop (k * 45)).take (min 45 (xs.length - k * 45)) = piece xs k := by
    unfold piece
    by_cases hle : 45 ≤ xs.length - k * 45
    · rw [Nat.min_eq_left hle]
    · rw [Nat.min_eq_right (by omega), List.take_of_length_le (by rw [List.length_drop]; omega), List.take_of_length_le (by rw [List.length_drop]; omega)]
  rw [e] at h2
  exact h2
theorem piece_len (xs : List Int) (k : Nat) : (piece xs k).length ≤ 45 := by unfold piece; rw [List.length_take]; omega
theorem laidB_ok (ep pl : Int) (part parts : Nat) (xs : List Int) (h : xs.length ≤ 45) (h8 : U8 xs) : BlkOk (laidB ep pl part parts xs) := by
  have hb4 : ∀ z : Int, U8 (b4 z) := fun z x hx => by simp only [b4, List.mem_cons, List.not_mem_nil, or_false] at hx; omega
  refine ⟨by simp [laidB, laid56, b4, sum4]; omega, fun x hx => ?_⟩
  simp only [laidB, laid56, List.mem_append, List.mem_cons, List.not_mem_nil, or_false] at hx
  rcases hx with ((((hx | hx) | hx) | (hx | hx)) | hx) | hx
  · exact hb4 _ x hx
  · exact hb4 _ x hx
  · omega
  · exact h8 x hx
  · have := List.eq_of_mem_replicate hx; omega
  · exact sum4_u8 _ x hx
  · exact hb4 _ x hx
theorem piece_u8 {xs : List Int} (h : U8 xs) (k : Nat) : U8 (piece xs k) := fun x hx => h x (List.mem_of_mem_drop (List.mem_of_mem_take hx))
/-- What Append answers, and what it leaves. -/
def sgApp (s : Sg) (d : Dk) (xs : List Int) : Int × Int × Sg × Dk :=
  if (wrs (partB s xs) (s.fr + s.used) 0 (need xs.length) d).1 = 0 then (s.l.length, 0, { s with l := s.l ++ [xs], used := s.used + need xs.length }, (wrs (partB s xs) (s.fr + s.used) 0 (need xs.length) d).2)
  else (0, (wrs (partB s xs) (s.fr + s.used) 0 (need xs.length) d).1, { s with e := (wrs (partB s xs) (s.fr + s.used) 0 (need xs.length) d).1 }, (wrs (partB s xs) (s.fr + s.used) 0 (need xs.length) d).2)
theorem sgApp_err (s : Sg) (d : Dk) (xs : List Int) {k : Nat} {er : Int} (hk : k < need xs.length) (hall : ∀ q, q < k → (dkWr (dAt (partB s xs) (s.fr + s.used) d q) (s.fr + s.used + q) (partB s xs q)).1 = 0)
    (her : (dkWr (dAt (partB s xs) (s.fr + s.used) d k) (s.fr + s.used + k) (partB s xs k)).1 = er) (h0 : er ≠ 0) : sgApp s d xs = (0, er, { s with e := er }, (dkWr (dAt (partB s xs) (s.fr + s.used) d k) (s.fr + s.used + k) (partB s xs k)).2) := by
  obtain ⟨r, hr⟩ : ∃ r, need xs.length = k + (r + 1) := ⟨need xs.length - k - 1, by omega⟩
  have hw : wrs (partB s xs) (s.fr + s.used) 0 (need xs.length) d = dkWr (dAt (partB s xs) (s.fr + s.used) d k) (s.fr + s.used + k) (partB s xs k) := by
    rw [hr, wrs_at _ _ _ _ _ hall]
    show (if _ then _ else _) = _
    rw [if_neg (by rw [her]; exact h0)]
  unfold sgApp
  rw [hw, if_neg (by rw [her]; exact h0), her]
theorem sgApp_ok (s : Sg) (d : Dk) (xs : List Int) (hall : ∀ q, q < need xs.length → (dkWr (dAt (partB s xs) (s.fr + s.used) d q) (s.fr + s.used + q) (partB s xs q)).1 = 0) :
    sgApp s d xs = ((s.l.length : Int), 0, { s with l := s.l ++ [xs], used := s.used + need xs.length }, dAt (partB s xs) (s.fr + s.used) d (need xs.length)) := by
  have hw : wrs (partB s xs) (s.fr + s.used) 0 (need xs.length) d = (0, dAt (partB s xs) (s.fr + s.used) d (need xs.length)) := by
    have := wrs_at (partB s xs) (s.fr + s.used) d (need xs.length) 0 hall
    rw [Nat.add_zero] at this
    exact this
  unfold sgApp
  rw [hw, if_pos rfl]
set_option maxHeartbeats 2000000 in
theorem SepW.sgAppend (h : SepW W w os) (i j : Nat) (hij : i ≠ j) {D : Nat → Prop} {d : Dk} (hi : os[i]? = some (obDk b0 D d)) (hj : os[j]? = some (obSg b0 s0 Ds s)) {bv : Value} {xs : List Int} (hb : SlR w bv (u8s xs)) (h8 : U8 xs) (hl1 : 1 ≤ xs.length) (hl2 : xs.length ≤ 4096)
    (ho : ∀ k, bv.ownBlock = some k → ¬ D k ∧ ¬ Ds k) (he : s.e = 0) (hfree : need xs.length ≤ s.n - s.used) (hfit : s.fr + s.n ≤ d.l.length) (hw : d.waits.length + 1000 < 1000000) (hfew : s.l.length < 65536) :
    Calls Tryz.prog 84 #[.pointer (some ⟨s0, 0, none⟩), bv] w fun e w' => ∃ D' Ds', e = .returned (.tuple #[.int .i64 (sgApp s d xs).1, .int .i64 (sgApp s d xs).2.1]) ∧ SepW W w' ((os.set i (obDk b0 D' (sgApp s d xs).2.2.2)).set j (obSg b0 s0 Ds' (sgApp s d xs).2.2.1)) := by
  obtain ⟨lv, vs, hs⟩ := (h.get j hj : SgO b0 s0 Ds w s)
  obtain ⟨⟨c0, c1, c2, c3, c4, c5, c6, c7, c8⟩, f⟩ := hs.cell
  obtain ⟨lo, lc, rfl, _, _⟩ := own_form hs.own
  obtain ⟨bo, bc, rfl, hbc1, hbc2⟩ := id hb.form
  simp only [List.length_map] at hb hbc1 ⊢
  obtain ⟨a, rfl, hac⟩ := hb.at' (m := 0) (u := .int .u8 (xs.getD 0 0)) (by
    cases xs with
    | nil => simp at hl1
    | cons q r => rfl)
  have halt : a.block < w.heap.size := by
    have := World.block_lt_of_cell? w _ hac
    rwa [block_add] at this
  have HAlt := Lib.hid halt
  clear hac halt
  have HNd := Lib.hid (need_any xs.length (by omega))
  have HFr := Lib.hid (h.sgFree j hj)
  have d1 : decide ((4096 : Int) < (xs.length : Int)) = false := decide_eq_false (by omega)
  have d2 : decide (((s.n - s.used : Nat) : Int) < ((need xs.length : Nat) : Int)) = false := decide_eq_false (by omega)
  have d2b : decide (s.n - s.used < need xs.length) = false := decide_eq_false (by omega)
  have hok := hs.ok
  have hwl : IntKind.u64.wrap (s.l.length : Int) = (s.l.length : Int) := IntWalk.u64_in _ (by constructor <;> omega)
  have hwl1 : IntKind.u64.wrap ((s.l.length : Int) + 1) = (s.l.length : Int) + 1 := IntWalk.u64_in _ (by constructor <;> omega)
  rw [he] at c8
  have H := Lib.hid h
  have HI := Lib.hid hi
  have HJ := Lib.hid hj
  have HB := Lib.hid hb
  have H8 := Lib.hid h8
  have HS := Lib.hid hs
  have HOk := Lib.hid hok
  have HOf := Lib.hid ho
  have HX := Lib.hid (show 1 ≤ xs.length ∧ xs.length ≤ 4096 ∧ need xs.length ≤ s.n - s.used ∧ s.fr + s.n ≤ d.l.length ∧ d.waits.length + 1000 < 1000000 ∧ s.l.length < 65536 ∧ s.e = 0 from ⟨hl1, hl2, hfree, hfit, hw, hfew, he⟩)
  clear h hi hj hb h8 hs hok ho hl2 hfree hfit hw hfew he
  go_enter Tryz.func84, Tryz.ntmps84
  go_wp2_with fail
  refine (HNd.out w).mono ?_
  rintro e w' ⟨rfl, rfl⟩
  go_wp2_with fail
  refine HFr.out.mono ?_
  rintro e w1 ⟨rfl, hd1⟩
  have hs1 := HS.out.keep (Below.keep0 (fun _ => False) hd1.below) (fun k hk => hk.elim)
  have HD1 := Lib.hid hd1
  have HS1 := Lib.hid hs1
  clear hd1 c0 c1 c2 c3 c4 c5 c6 c7 c8 f HFr HNd
  obtain ⟨⟨c0, c1, c2, c3, c4, c5, c6, c7, c8⟩, f⟩ := hs1.cell
  have hn3 := World.new_ne w1 ⟨s0, 3, none⟩ c3
  have hn4 := World.new_ne w1 ⟨s0, 4, none⟩ c4
  clear hs1
  go_wp2_with fail
  go_region_held3 (fun w' => w'.cell? ⟨s0, 3, none⟩ = some (.int .u64 s.epoch) ∧ w'.cell? ⟨s0, 4, none⟩ = some (.slice lo s.l.length lc)) (go_keep) (fail)
  go_wp2_with fail
  have hs2 := (((H.out.step HD1.out.below).newBlk #[.int .u64 s.epoch, .int .u64 ((s.l.length : Int) + 1), .int .i64 0, .int .i64 (need xs.length : Nat), .slice none 0 0] 179).step (Below.refl _ _).drew)
  have HS2 := Lib.hid hs2
  have HB2 := Lib.hid (((HB.out.drew HD1.out).below (below_lit w1 (.cells #[.int .u64 s.epoch, .int .u64 ((s.l.length : Int) + 1), .int .i64 0, .int .i64 (need xs.length : Nat), .slice none 0 0] 179)) (Nat.le_refl _)).below (Below.refl _ _).drew (Nat.le_refl _))
  have hk2 : Below w.heap.size w (w1.alloc (.cells #[.int .u64 s.epoch, .int .u64 ((s.l.length : Int) + 1), .int .i64 0, .int .i64 (need xs.length : Nat), .slice none 0 0] 179)).drew := ((HD1.out.below (B := w.heap.size)).alloc (HD1.out.below (B := w.heap.size)).size _).drew
  have HK2 := Lib.hid hk2
  have HAx : Hid (a.block < w1.heap.size) := Lib.hid (Nat.lt_of_lt_of_le HAlt.out (HD1.out.below (B := w.heap.size)).size)
  clear c0 c1 c2 c3 c4 c5 c6 c7 c8 f hn3 hn4 hs2 hk2
  generalize w1.heap.size = xb at *
  generalize (w1.alloc (.cells #[.int .u64 s.epoch, .int .u64 ((s.l.length : Int) + 1), .int .i64 0, .int .i64 (need xs.length : Nat), .slice none 0 0] 179)).drew = w2 at *
  refine (chunk_any (some a) xs.length bc w2).mono ?_
  rintro e w3 ⟨rfl, rfl⟩
  have hb3 : Below w2.heap.size w2 ((w2.alloc (.cells #[.slice (some a) xs.length bc] 27)).alloc (.cells #[.int .i64 45] 3)) := (below_lit w2 _).alloc (by simp) _
  have hn := heap_alloc_new w2 (.cells #[.slice (some a) xs.length bc] 27 (0, 0))
  have h45 := heap_alloc_new (w2.alloc (.cells #[.slice (some a) xs.length bc] 27)) (.cells #[.int .i64 45] 3 (0, 0))
  have hsz : (w2.alloc (.cells #[.slice (some a) xs.length bc] 27)).heap.size = w2.heap.size + 1 := by simp
  rw [hsz] at h45
  have hn' := (Below.heap_alloc (w2.alloc (.cells #[.slice (some a) xs.length bc] 27)) (.cells #[.int .i64 45] 3 (0, 0)) w2.heap.size (by simp)).trans hn
  have HCo := Lib.hid (collect_any _ w2.heap.size (w2.heap.size + 1) a xs.length bc hbc1 (by have := HX.out.2.1; omega) hbc2 (World.news_of_block hn' 0 _ rfl) (World.news_of_block h45 0 _ rfl))
  have HB3 := Lib.hid hb3
  clear hb3 hn hn' h45 hsz
  go_wp2_with fail
  refine HCo.out.mono ?_
  rintro e w4 ⟨pv, rfl, hpo, hb4⟩
  have hs4 := (HS2.out.step HB3.out).newRow hpo hb4
  have HS4 := Lib.hid hs4
  have hB24 : Below w2.heap.size w2 w4 := HB3.out.trans (hb4.mono HB3.out.size)
  have HB4 := Lib.hid (HB2.out.below hB24 (Nat.le_refl _))
  obtain ⟨po, pc, rfl, _, _⟩ := own_form hpo
  have hne0 : ((xs.length : Int) == 0) = false := beq_eq_false_iff_ne.2 (by omega)
  have hneed : (xs.length + 44) / 45 = need xs.length := by unfold need; omega
  rw [hneed] at HS4 ⊢
  have HB24 := Lib.hid hB24.size
  clear hs4 hB24 hpo hb4 HCo HS2 HB2 HB3
  go_wp2_with fail
  have hset0 : os.set i (obDk b0 D (dAt (partB s xs) (s.fr + s.used) d 0)) = os := set_self HI.out
  go_loopw [59] (fun i' wr => ∃ (k : Nat) (D' : Nat → Prop) (pt : Int) (pbv : Value), k ≤ need xs.length ∧ i' = .int .i64 k ∧ (∀ q, q < k → (dkWr (dAt (partB s xs) (s.fr + s.used) d q) (s.fr + s.used + q) (partB s xs q)).1 = 0) ∧ SlR wr (.slice (some a) xs.length bc) (u8s xs) ∧ (a.block < w2.heap.size ∧ ¬ D' a.block) ∧ w2.heap.size ≤ wr.heap.size ∧ pbv.oneCell' = true ∧ SepW W wr (obRow (.slice po (need xs.length) pc) 27 1 (need xs.length) ((chkL a xs.length (need xs.length)).map encP) :: obBlk xb (.cells #[.int .u64 s.epoch, .int .u64 ((s.l.length : Int) + 1), .int .i64 pt, .int .i64 (need xs.length : Nat), pbv] 179) :: os.set i (obDk b0 D' (dAt (partB s xs) (s.fr + s.used) d k)))) (fun i' _ => need xs.length - (intOf i').toNat)
  case atStart => exact ⟨0, D, 0, .slice none 0 0, by omega, rfl, by simp, HB4.out, ⟨Nat.lt_of_lt_of_le HAlt.out HK2.out.size, (HOf.out _ rfl).1⟩, HB24.out, rfl, by rw [hset0]; exact HS4.out⟩
  case round =>
    clear HS4 HB4 hset0
    obtain ⟨k, D', pt, pbv, hk, rfl, hall, hbr, hab, hsz2, hone, hs⟩ := hrel
    have HAll := Lib.hid hall
    have HBr := Lib.hid hbr
    have HAb := Lib.hid hab
    have HSz2 := Lib.hid hsz2
    have HSk := Lib.hid hs
    clear hall hbr hab hsz2
    by_cases hlt : k < need xs.length
    · have hlt2 : (k : Int) < ((need xs.length : Nat) : Int) := by omega
      have hk45 : k * 45 < xs.length := by have := hneed; omega
      obtain ⟨PA, hpo, hpc⟩ := (hs.row 0 rfl).at' (m := k) (u := encP (chkV a xs.length k)) (by rw [List.getElem?_map, chkL, List.getElem?_map, List.getElem?_range hlt]; rfl)
      subst hpo
      have hxb : wr.heap[xb]? = some (.cells #[.int .u64 s.epoch, .int .u64 ((s.l.length : Int) + 1), .int .i64 pt, .int .i64 (need xs.length : Nat), pbv] 179 (0, 0)) := hs.get 1 rfl
      have x2 : wr.cell? ⟨xb, 2, none⟩ = some (.int .i64 pt) := by simp [World.cell?, hxb]
      have x4 : wr.cell? ⟨xb, 4, none⟩ = some pbv := by simp [World.cell?, hxb]
      have fx : ∀ j, wr.frozen? ⟨xb, j, none⟩ = false := fun j => by simp [World.frozen?, hxb]
      clear hs hxb
      have hs5 : SepW W ((wr.setCell ⟨xb, 2, none⟩ (.int .i64 k)).setCell ⟨xb, 4, none⟩ (encP (chkV a xs.length k))) (obRow (.slice (some PA) (need xs.length) pc) 27 1 (need xs.length) ((chkL a xs.length (need xs.length)).map encP) :: obBlk xb (.cells #[.int .u64 s.epoch, .int .u64 ((s.l.length : Int) + 1), .int .i64 k, .int .i64 (need xs.length : Nat), encP (chkV a xs.length k)] 179) :: os.set i (obDk b0 D' (dAt (partB s xs) (s.fr + s.used) d k))) := (HSk.out.blkSet 1 rfl 2 (.int .i64 k)).blkSet 1 rfl 4 (encP (chkV a xs.length k))
      have hbr5 : SlR ((wr.setCell ⟨xb, 2, none⟩ (.int .i64 k)).setCell ⟨xb, 4, none⟩ (encP (chkV a xs.length k))) (.slice (some a) xs.length bc) (u8s xs) := HBr.out.keep (S := fun q => q = xb) ((cells_keep wr xb 2 _).trans (cells_keep _ xb 4 _)) (fun q hq e => by cases hq; have := HAx.out; omega)
      have hsz5 : w2.heap.size ≤ ((wr.setCell ⟨xb, 2, none⟩ (.int .i64 k)).setCell ⟨xb, 4, none⟩ (encP (chkV a xs.length k))).heap.size := by simpa [World.setCell] using HSz2.out
      have hS : ∀ (w' : World) (D'' : Nat → Prop) (d'' : Dk), SepW W w' (obBlk xb (.cells #[.int .u64 s.epoch, .int .u64 ((s.l.length : Int) + 1), .int .i64 k, .int .i64 (need xs.length : Nat), encP (chkV a xs.length k)] 179) :: os.set i (obDk b0 D'' d'')) → w'.cell? ⟨s0, 0, none⟩ = some (.pointer (some ⟨b0, 0, none⟩)) ∧ w'.cell? ⟨s0, 1, none⟩ = some (.int .i64 s.fr) ∧ w'.cell? ⟨s0, 5, none⟩ = some (.int .i64 s.used) ∧ w'.cell? ⟨xb, 0, none⟩ = some (.int .u64 s.epoch) ∧ w'.cell? ⟨xb, 1, none⟩ = some (.int .u64 ((s.l.length : Int) + 1)) ∧ w'.cell? ⟨xb, 2, none⟩ = some (.int .i64 k) ∧ w'.cell? ⟨xb, 3, none⟩ = some (.int .i64 (need xs.length : Nat)) ∧ w'.cell? ⟨xb, 4, none⟩ = some (encP (chkV a xs.length k)) := fun w' D'' d'' hh => by
        obtain ⟨lv', vs', hsg⟩ := (hh.get (j + 1) (by show (os.set i _)[j]? = _; rw [List.getElem?_set_ne hij]; exact HJ.out) : SgO b0 s0 Ds w' s)
        obtain ⟨⟨c0, c1, _, _, _, c5, _⟩, _⟩ := hsg.cell
        have hx' : w'.heap[xb]? = some (.cells #[.int .u64 s.epoch, .int .u64 ((s.l.length : Int) + 1), .int .i64 k, .int .i64 (need xs.length : Nat), encP (chkV a xs.length k)] 179 (0, 0)) := hh.get 0 rfl
        exact ⟨c0, c1, c5, by simp [World.cell?, hx'], by simp [World.cell?, hx'], by simp [World.cell?, hx'], by simp [World.cell?, hx'], by simp [World.cell?, hx']⟩
      have HSS := Lib.hid hS
      have HS5 := Lib.hid hs5
      have HBr5 := Lib.hid hbr5
      have HSz5 := Lib.hid hsz5
      have HK45 := Lib.hid hk45
      have HLt := Lib.hid hlt
      have hn1000 : need xs.length ≤ 1000 := by have := HX.out.2.1; unfold need; omega
      have hwa : IntKind.i64.wrap ((s.fr : Int) + (s.used : Int)) = ((s.fr + s.used : Nat) : Int) := by rw [show (s.fr : Int) + (s.used : Int) = ((s.fr + s.used : Nat) : Int) by omega]; exact IntWalk.i64_in _ (by have := HOk.out.nums; constructor <;> omega)
      have hwb : IntKind.i64.wrap (((s.fr + s.used : Nat) : Int) + (k : Int)) = ((s.fr + s.used + k : Nat) : Int) := by rw [show ((s.fr + s.used : Nat) : Int) + (k : Int) = ((s.fr + s.used + k : Nat) : Int) by omega]; exact IntWalk.i64_in _ (by have := HOk.out.nums; constructor <;> omega)
      have hwb2 : IntKind.i64.wrap ((s.fr : Int) + (s.used : Int) + (k : Int)) = ((s.fr + s.used + k : Nat) : Int) := by rw [show (s.fr : Int) + (s.used : Int) + (k : Int) = ((s.fr + s.used + k : Nat) : Int) by omega]; exact IntWalk.i64_in _ (by have := HOk.out.nums; constructor <;> omega)
      clear hs5 hbr5 hS hk45 hlt hsz5
      go_wp2_with fail
      clear x2 x4 fx hpc
      generalize (wr.setCell ⟨xb, 2, none⟩ (.int .i64 k)).setCell ⟨xb, 4, none⟩ (encP (chkV a xs.length k)) = w5 at *
      have hs5d := HS5.out.step (Below.refl w5.heap.size w5).drew
      have hS5 := HSS.out w5.drew _ _ (hs5d.sub (List.sublist_cons_self _ _))
      have HS5d := Lib.hid hs5d
      have HLd := Lib.hid (laid_any (w := w5.drew) (piece_row (HBr5.out.below (Below.refl _ _).drew (Nat.le_refl _)) HK45.out) (piece_u8 H8.out k) (piece_len xs k) (ep := s.epoch) (pl := (s.l.length : Int) + 1) (by have := HOk.out.epoch; constructor <;> omega) (by have := HX.out.2.2.2.2.2.1; constructor <;> omega) k (need xs.length) (by omega) hn1000)
      have hwf : ∀ (w6 : World) (v6 : Value), SepW W w6 (obRow v6 5 1 64 (u8s (partB s xs k)) :: obRow (.slice (some PA) (need xs.length) pc) 27 1 (need xs.length) ((chkL a xs.length (need xs.length)).map encP) :: obBlk xb (.cells #[.int .u64 s.epoch, .int .u64 ((s.l.length : Int) + 1), .int .i64 k, .int .i64 (need xs.length : Nat), encP (chkV a xs.length k)] 179) :: os.set i (obDk b0 D' (dAt (partB s xs) (s.fr + s.used) d k))) → (∀ q, v6.ownBlock = some q → w5.drew.heap.size ≤ q) →
          Calls Tryz.prog 118 #[.pointer (some ⟨b0, 0, none⟩), .int .i64 ((s.fr : Int) + (s.used : Int) + (k : Int)), v6] w6 fun e w' => e = .returned (.int .i64 (dkWr (dAt (partB s xs) (s.fr + s.used) d k) (s.fr + s.used + k) (partB s xs k)).1) ∧ ∃ D7, SepW W w' (obRow v6 5 1 64 (u8s (partB s xs k)) :: obRow (.slice (some PA) (need xs.length) pc) 27 1 (need xs.length) ((chkL a xs.length (need xs.length)).map encP) :: obBlk xb (.cells #[.int .u64 s.epoch, .int .u64 ((s.l.length : Int) + 1), .int .i64 k, .int .i64 (need xs.length : Nat), encP (chkV a xs.length k)] 179) :: os.set i (obDk b0 D7 (dkWr (dAt (partB s xs) (s.fr + s.used) d k) (s.fr + s.used + k) (partB s xs k)).2)) ∧ (∀ q, D7 q → D' q ∨ w6.heap.size ≤ q) ∧ Keep D' w6 w' := fun w6 v6 h6 hq6 => by
        rw [show (s.fr : Int) + (s.used : Int) + (k : Int) = ((s.fr + s.used + k : Nat) : Int) by omega]
        have hl6 : s.fr + s.used + k < (dAt (partB s xs) (s.fr + s.used) d k).l.length := by
          have h1 := (dAt_len (partB s xs) (s.fr + s.used) d k).1
          rw [h1]
          have h2 := HX.out.2.2.2.1
          have h3 := HX.out.2.2.1
          have h4 := HLt.out
          have h5 := HOk.out.nums
          omega
        refine (h6.dkWrite (i + 3) (set_at HI.out _) hl6 (h6.row 0 rfl) (laidB_ok _ _ _ _ _ (piece_len xs k) (piece_u8 H8.out k)) (fun q hq hd => ?_) ?_).mono ?_
        · have h1 := hq6 q hq
          have h2 := (HS5d.out.sep.lt (i + 2) (set_at HI.out _) q hd).2
          omega
        · have h1 := (dAt_len (partB s xs) (s.fr + s.used) d k).2
          have h2 := HX.out.2.2.2.2.1
          have h3 := HLt.out
          omega
        · rintro e w' ⟨he, D7, hs7, h8', h9⟩
          refine ⟨he, D7, ?_, h8', h9⟩
          have e1 : ∀ (A B : Ob), (os.set i A).set i B = os.set i B := fun A B => List.set_set ..
          rw [← e1 (obDk b0 D' (dAt (partB s xs) (s.fr + s.used) d k))]
          exact hs7
      have HWF := Lib.hid hwf
      clear hs5d hwf
      go_region_held3 (fun w' => w'.cell? ⟨s0, 0, none⟩ = some (.pointer (some ⟨b0, 0, none⟩)) ∧ w'.cell? ⟨s0, 1, none⟩ = some (.int .i64 s.fr) ∧ w'.cell? ⟨s0, 5, none⟩ = some (.int .i64 s.used) ∧ w'.cell? ⟨xb, 0, none⟩ = some (.int .u64 s.epoch) ∧ w'.cell? ⟨xb, 1, none⟩ = some (.int .u64 ((s.l.length : Int) + 1)) ∧ w'.cell? ⟨xb, 2, none⟩ = some (.int .i64 k) ∧ w'.cell? ⟨xb, 3, none⟩ = some (.int .i64 (need xs.length : Nat)) ∧ w'.cell? ⟨xb, 4, none⟩ = some (encP (chkV a xs.length k))) (first | with_reducible exact hS5 | with_reducible exact hS6 | with_reducible exact hS7 | go_keep)
        (first
          | (go_at_call 119; (with_reducible refine HLd.out.mono ?_); rintro e w6 ⟨v6, rfl, ho6, hb6⟩
             have hs6 := HS5d.out.newRow ho6 hb6
             have hS6 := HSS.out w6 _ _ (hs6.sub (List.sublist_append_right [_, _] _))
             have HS6 := Lib.hid hs6
             have HO6 := Lib.hid ho6
             have HB6 := Lib.hid hb6
             clear hs6 ho6 hb6
             have HWr := Lib.hid (HWF.out w6 v6 HS6.out (fun q hq => (HO6.out.lt q hq).1)))
          | (go_at_call 118; (with_reducible refine HWr.out.mono ?_); rintro e w7 ⟨rfl, D7, hs7, hD7, hk7⟩
             have hS7 := HSS.out w7 _ _ (hs7.sub (List.sublist_append_right [_, _] _))
             have HS7 := Lib.hid hs7
             have HD7 := Lib.hid hD7
             have HK7 := Lib.hid hk7
             clear hs7 hD7 hk7))
      have hsz7 : w2.heap.size ≤ w7.heap.size := Nat.le_trans HSz5.out (Nat.le_trans HB6.out.size HK7.out.size)
      have hsz6 : w2.heap.size ≤ w6.heap.size := Nat.le_trans HSz5.out HB6.out.size
      have hbr7 : SlR w7 (.slice (some a) xs.length bc) (u8s xs) := ((HBr5.out.below ((Below.refl _ _).drew.trans HB6.out) (Nat.le_refl _))).keep HK7.out (fun q hq hd => HAb.out.2 (by cases hq; exact hd))
      have hab7 : a.block < w2.heap.size ∧ ¬ D7 a.block := ⟨HAb.out.1, fun hd => by
        rcases HD7.out _ hd with e | e
        · exact HAb.out.2 e
        · have := HAb.out.1; omega⟩
      have HSz7 := Lib.hid hsz7
      have HBr7 := Lib.hid hbr7
      have HAb7 := Lib.hid hab7
      clear hsz7 hsz6 hbr7 hab7
      obtain ⟨er, her⟩ : ∃ er, (dkWr (dAt (partB s xs) (s.fr + s.used) d k) (s.fr + s.used + k) (partB s xs k)).1 = er := ⟨_, rfl⟩
      simp only [her]
      by_cases h0 : er = 0
      · subst h0
        have HEr := Lib.hid her
        clear her
        go_wp2_with fail
        go_roundw
        case rel =>
          refine ⟨k + 1, D7, k, encP (chkV a xs.length k), by have := HLt.out; omega, by go_num, fun q hq => ?_, HBr7.out, HAb7.out, HSz7.out, rfl, HS7.out.sub (List.sublist_cons_self _ _)⟩
          by_cases hqk : q = k
          · subst hqk; exact HEr.out
          · exact HAll.out q (by omega)
        case measure => have := HLt.out; simp [intOf]; omega
      · have hq0 : (er == 0) = false := beq_eq_false_iff_ne.2 h0
        have HEr := Lib.hid her
        have H0 := Lib.hid h0
        have hs8 := HS7.out.sub (List.sublist_append_right [_, _, _] _)
        obtain ⟨lv8, vs8, hsg8⟩ := (hs8.get j (by rw [List.getElem?_set_ne hij]; exact HJ.out) : SgO b0 s0 Ds w7 s)
        obtain ⟨⟨_, _, _, _, _, _, _, _, c8⟩, f⟩ := hsg8.cell
        have hs9 := hs8.set j (o := obSg b0 s0 Ds s) (by rw [List.getElem?_set_ne hij]; exact HJ.out) ((cells_keep w7 s0 8 (.int .i64 er)).mono (fun q _ e => by rw [e]; exact hsg8.d0)) (obSg_good b0 s0 Ds { s with e := er }) ⟨_, _, hsg8.setE er⟩ (fun q hq => Or.inl hq)
        have HS9 := Lib.hid hs9
        clear her h0 hs8 hsg8 hs9
        go_wp2_with fail
        go_returns
        rw [sgApp_err s d xs HLt.out HAll.out HEr.out H0.out]
        exact ⟨D7, Ds, by simp, HS9.out⟩
    · have hkm : k = need xs.length := by omega
      subst hkm
      have hs5 := HSk.out.sub (List.sublist_append_right [_, _] _)
      obtain ⟨lv5, vs5, hsg5⟩ := (hs5.get j (by rw [List.getElem?_set_ne hij]; exact HJ.out) : SgO b0 s0 Ds wr s)
      obtain ⟨⟨_, _, _, _, c4, c5, _, _, _⟩, f⟩ := hsg5.cell
      have HS5 := Lib.hid hs5
      have HG5 := Lib.hid hsg5
      have HCl := Lib.hid (cloneB_any (HBr.out.below (Below.refl _ _).drew (Nat.le_refl _) : SlR wr.drew (.slice (some a) xs.length bc) (u8s xs)) (by have := HX.out.2.1; omega))
      have hwu : IntKind.i64.wrap ((s.used : Int) + ((need xs.length : Nat) : Int)) = ((s.used + need xs.length : Nat) : Int) := by rw [show (s.used : Int) + ((need xs.length : Nat) : Int) = ((s.used + need xs.length : Nat) : Int) by omega]; exact IntWalk.i64_in _ (by have := HOk.out.nums; have := HX.out.2.2.1; constructor <;> omega)
      have hDk : Hid (∀ k, Ds k → k < wr.heap.size) := Lib.hid hsg5.lt
      obtain ⟨lo5, lc5, rfl, _, _⟩ := own_form hsg5.own
      have hfew5 : s.l.length ≤ 1000000000 := by have := HX.out.2.2.2.2.2.1; omega
      clear hs5 hsg5
      go_wp2_with fail
      go_region_law ((first
        | (go_simp; go_at_call 68; (with_reducible refine HCl.out.mono ?_); rintro e w6 ⟨cv, rfl, hcv, hb6⟩
           have hg6 := (HG5.out.keep (Below.keep0 (fun _ => False) ((Below.refl wr.heap.size wr).drew.trans hb6)) (fun k hk => hk.elim))
           obtain ⟨⟨_, _, _, _, c46, c56, _, _, _⟩, f6⟩ := hg6.cell
           have hlt6 : s0 < w6.heap.size := hg6.lt _ hg6.d0
           obtain ⟨co, cc, rfl, _, _⟩ := own_form hcv
           have HG6 := Lib.hid hg6
           have HCv := Lib.hid hcv
           have HB6 := Lib.hid hb6
           clear hg6 hcv hb6)
        | (refine step_appW rfl (.tmp 99) (.tmp 102) 22 rfl 0 27 _ 1 24 Tryz.underlying22 Tryz.sliceInfo8 (by kernel_rfl) (by decide) (by decide) rfl rfl (heap_alloc_new w6 _) rfl (HG6.out.own.alloc _) (by intro u hu; simp at hu; subst hu; rfl) hfew5 (Nat.zero_le _) ?_
           intro g8 cap8 w8 hown8 hb8 hg8 hk8
           have hc8 : w8.heap[s0]? = some (.cells #[.pointer (some ⟨b0, 0, none⟩), .int .i64 s.fr, .int .i64 s.n, .int .u64 s.epoch, .slice lo5 s.l.length lc5, .int .i64 s.used, .int .i64 s.sure, .int .i64 s.gone, .int .i64 s.e] 175 (0, 0)) :=
             (hk8 s0 (by simp; omega) (fun e => (HG6.out.dl s0 e.symm).2 rfl)).trans ((Below.heap_alloc w6 _ s0 hlt6).trans HG6.out.cells)
           have c48 : w8.cell? ⟨s0, 4, none⟩ = some (.slice lo5 s.l.length lc5) := World.news_of_block hc8 4 _ rfl
           have c58 : w8.cell? ⟨s0, 5, none⟩ = some (.int .i64 s.used) := World.news_of_block hc8 5 _ rfl
           have f8 : ∀ j, w8.frozen? ⟨s0, j, none⟩ = false := fun j => by simp [World.frozen?, hc8]
           have HO8 := Lib.hid hown8
           have HB8 := Lib.hid hb8
           have HG8 := Lib.hid hg8
           have HK8 := Lib.hid hk8
           clear hown8 hb8 hg8 hk8 hc8)))
      have hwl2 : IntKind.i64.wrap ((s.l.length : Int) + 1 - 1) = (s.l.length : Int) := by rw [Int.add_sub_cancel]; exact IntWalk.i64_in _ (by have := HX.out.2.2.2.2.2.1; constructor <;> omega)
      all_goals
        have hap := HG6.out.app HCv.out hDk.out (below_lit w6 _) HO8.out HB8.out HG8.out HK8.out H8.out HX.out.2.1 HX.out.2.2.2.2.2.1 (by have := HOk.out.nums; have := HX.out.2.2.1; omega : s.used + need xs.length ≤ s.n)
        have hkw : Keep Ds wr w6 := Below.keep0 Ds ((Below.refl wr.heap.size wr).drew.trans HB6.out)
        have hs9 := HS5.out.set j (o := obSg b0 s0 Ds s) (by rw [List.getElem?_set_ne hij]; exact HJ.out) (hkw.trans hap.2.1) (obSg_good b0 s0 _ _) ⟨_, _, hap.1⟩ (fun q hq => by
          rcases hap.2.2 q hq with e | e | e
          · exact Or.inl e
          · exact Or.inr e
          · exact Or.inr (Nat.le_trans hkw.size e))
        have HS9 := Lib.hid hs9
        clear hap hkw hs9
        go_wp2_with fail
        go_returns
        have hcast : (s.used : Int) + ((need xs.length : Nat) : Int) = ((s.used + need xs.length : Nat) : Int) := by omega
        rw [sgApp_ok s d xs HAll.out, hcast]
        exact ⟨rfl, _, _, HS9.out⟩
end
end Go.Proofs.YtgmdedkingampaaGreat

namespace Go.Proofs.YtgmdedkingampaaGreat
open Go.ChangeShapes Go.WideShapes Go.ChangeAt Go.RowKit Go.Maps
set_option maxRecDepth 100000
set_option linter.unusedVariables false
set_option linter.unusedSimpArgs false

theorem SgR.turn {D : Nat → Prop} {w w' : World} {b0 s0 : Nat} {lv : Value} {vs : List Value} {s s' : Sg} (h : SgR w D b0 s0 lv vs s) (hk : Keep (fun k => k = s0) w w')
    (hc : w'.heap[s0]? = some (.cells #[.pointer (some ⟨b0, 0, none⟩), .int .i64 s'.fr, .int .i64 s'.n, .int .u64 s'.epoch, lv, .int .i64 s'.used, .int .i64 s'.sure, .int .i64 s'.gone, .int .i64 s'.e] 175 (0, 0))) (hl : s'.l = s.l) (hok : SgOk s') : SgR w' D b0 s0 lv vs s' := by
  have hb : ∀ k, D k → k ≠ s0 → w'.heap[k]? = w.heap[k]? := fun k hd hn => hk.block k (h.lt k hd) hn
  exact ⟨hc, by rw [hl]; exact own_keep h.own (fun k hv => hb k (h.dl k hv).1 (h.dl k hv).2), by rw [hl]; exact h.vals.keep hk (fun u hu k hk' e => (h.off u hu k hk').2.1 e), h.off, fun k hd => Nat.lt_of_lt_of_le (h.lt k hd) hk.size, h.d0, h.dl, hok⟩
/-- What Sync answers, and what it leaves. -/
def sgSy (s : Sg) (d : Dk) : Sg := if (dkSy d).1 = 0 then { s with sure := s.l.length } else { s with e := (dkSy d).1 }
section
variable {W w : World} {os : List Ob} {b0 s0 : Nat} {Ds : Nat → Prop} {s : Sg}
set_option maxHeartbeats 1000000 in
theorem SepW.sgSync (h : SepW W w os) (i j : Nat) (hij : i ≠ j) {D : Nat → Prop} {d : Dk} (hi : os[i]? = some (obDk b0 D d)) (hj : os[j]? = some (obSg b0 s0 Ds s)) (he : s.e = 0) :
    Calls Tryz.prog 86 #[.pointer (some ⟨s0, 0, none⟩)] w fun e w' => e = .returned (.int .i64 (dkSy d).1) ∧ SepW W w' ((os.set i (obDk b0 D (dkSy d).2)).set j (obSg b0 s0 Ds (sgSy s d))) := by
  obtain ⟨lv, vs, hs⟩ := (h.get j hj : SgO b0 s0 Ds w s)
  obtain ⟨⟨c0, c1, c2, c3, c4, c5, c6, c7, c8⟩, f⟩ := hs.cell
  rw [he] at c8
  have HSy := Lib.hid (h.dkSync i hi)
  have HJ : Hid (∀ o, (os.set i o)[j]? = some (obSg b0 s0 Ds s)) := Lib.hid (fun o => by rw [List.getElem?_set_ne hij]; exact hj)
  have HOk := Lib.hid hs.ok
  have HE := Lib.hid he
  clear h hi hj hs he
  go_enter Tryz.func86, Tryz.ntmps86
  go_wp2_with fail
  refine HSy.out.mono ?_
  rintro e w2 ⟨rfl, hs2⟩
  obtain ⟨lv2, vs2, hg2⟩ := (hs2.get j (HJ.out _) : SgO b0 s0 Ds w2 s)
  clear c0 c1 c2 c3 c4 c5 c6 c7 c8 f
  obtain ⟨⟨c0, c1, c2, c3, c4, c5, c6, c7, c8⟩, f⟩ := hg2.cell
  obtain ⟨lo, lc, rfl, _, _⟩ := own_form hg2.own
  have hok := HOk.out
  have hslt : s0 < w2.heap.size := hg2.lt _ hg2.d0
  obtain ⟨er, her⟩ : ∃ er, (dkSy d).1 = er := ⟨_, rfl⟩
  simp only [her]
  by_cases h0 : er = 0
  · subst h0
    have hc1 : ((w2.setCell ⟨s0, 8, none⟩ (.int .i64 0)).setCell ⟨s0, 6, none⟩ (.int .i64 s.l.length)).heap[s0]? = some (.cells #[.pointer (some ⟨b0, 0, none⟩), .int .i64 s.fr, .int .i64 s.n, .int .u64 s.epoch, .slice lo s.l.length lc, .int .i64 s.used, .int .i64 s.l.length, .int .i64 s.gone, .int .i64 0] 175 (0, 0)) := by
      have b1 := heap_setCell_same w2 s0 8 _ _ (.int .i64 0) hg2.cells
      have b2 := heap_setCell_same _ s0 6 _ _ (.int .i64 s.l.length) b1
      simpa using b2
    have hk2 : Keep (fun q => q = s0) w2 ((w2.setCell ⟨s0, 8, none⟩ (.int .i64 0)).setCell ⟨s0, 6, none⟩ (.int .i64 s.l.length)) := (cells_keep w2 s0 8 _).trans (cells_keep _ s0 6 _)
    have hsg : sgSy s d = { s with sure := s.l.length } := by unfold sgSy; rw [if_pos her]
    have hg3 : SgR ((w2.setCell ⟨s0, 8, none⟩ (.int .i64 0)).setCell ⟨s0, 6, none⟩ (.int .i64 s.l.length)) Ds b0 s0 (.slice lo s.l.length lc) vs2 { s with sure := s.l.length } :=
      hg2.turn hk2 (by rw [hc1, HE.out]) rfl ⟨⟨hok.nums.1, hok.nums.2.1, hok.nums.2.2.1, by have := hok.few; show s.l.length ≤ 1000000; omega, hok.nums.2.2.2.2⟩, hok.epoch, hok.u8, hok.few⟩
    have hs3 := hs2.set j (o := obSg b0 s0 Ds s) (HJ.out _) (hk2.mono (fun q _ e => by rw [e]; exact hg2.d0)) (obSg_good b0 s0 Ds { s with sure := s.l.length }) ⟨_, _, hg3⟩ (fun q hq => Or.inl hq)
    have HS3 := Lib.hid hs3
    have HEr := Lib.hid her
    have HSg := Lib.hid hsg
    clear hs2 hg2 hc1 hs3 her hsg hg3 hk2
    go_wp2_with fail
    go_ret
    rw [HEr.out, HSg.out]
    exact ⟨rfl, HS3.out⟩
  · have hq0 : (er == 0) = false := beq_eq_false_iff_ne.2 h0
    have hc1 : (w2.setCell ⟨s0, 8, none⟩ (.int .i64 er)).heap[s0]? = some (.cells #[.pointer (some ⟨b0, 0, none⟩), .int .i64 s.fr, .int .i64 s.n, .int .u64 s.epoch, .slice lo s.l.length lc, .int .i64 s.used, .int .i64 s.sure, .int .i64 s.gone, .int .i64 er] 175 (0, 0)) := by
      have b1 := heap_setCell_same w2 s0 8 _ _ (.int .i64 er) hg2.cells
      simpa using b1
    have hs3 := hs2.set j (o := obSg b0 s0 Ds s) (HJ.out _) ((cells_keep w2 s0 8 (.int .i64 er)).mono (fun q _ e => by rw [e]; exact hg2.d0)) (obSg_good b0 s0 Ds { s with e := er }) ⟨_, _, hg2.turn (cells_keep w2 s0 8 _) hc1 rfl ⟨hok.nums, hok.epoch, hok.u8, hok.few⟩⟩ (fun q hq => Or.inl hq)
    have HS3 := Lib.hid hs3
    have H0 := Lib.hid h0
    have HEr := Lib.hid her
    have hsg : sgSy s d = { s with e := er } := by unfold sgSy; rw [if_neg (by rw [her]; exact h0), her]
    have HSg := Lib.hid hsg
    clear hs2 hg2 hc1 hs3 h0 her hsg
    go_wp2_with fail
    go_ret
    rw [HEr.out, HSg.out]
    exact ⟨rfl, HS3.out⟩
end
end Go.Proofs.YtgmdedkingampaaGreat
