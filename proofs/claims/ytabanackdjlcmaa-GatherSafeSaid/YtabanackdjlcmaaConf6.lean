/-
  Contracts of package conf: Check of a seal.
-/
import Derived.Test.YtabanackdjlcmaaConf3
namespace Go.Proofs.Ytabanackdjlcmaa
open Go.ChangeShapes Go.WideShapes Go.ChangeAt Go.RowKit Go.Maps
set_option maxRecDepth 100000

set_option maxHeartbeats 4000000 in
/-- A shard may be added. -/
theorem check_add {w : World} {c : Cm} {v : Value} (hv : RowsL w v c.rows) (hl : c.rows.length ≤ 1000000) (hA : checkA c = true) (h1 : c.op = 1) (hg1 : 1 ≤ c.segs) (hg2 : c.segs ≤ 4) :
    Calls Try.prog 22 #[cmV c v] w fun e w' => e = .returned (.int .i64 0) ∧ Below w.heap.size w w' := by
  obtain ⟨op, client, seq, shard, segs, pos, rs⟩ := c
  simp only at hv hl h1 hg1 hg2
  subst h1
  unfold checkA at hA
  simp only [Bool.and_eq_true, decide_eq_true_eq] at hA
  obtain ⟨⟨⟨⟨⟨ho0, ho4⟩, hfit⟩, hs0⟩, hs8⟩, hrow⟩ := hA
  have HV := Lib.hid hv
  obtain ⟨ao, cc, rfl, hc1, hc2, _⟩ := id hv
  have d4 : decide (1 ≤ segs) = true := decide_eq_true hg1
  have d5 : decide (segs ≤ 4) = true := decide_eq_true hg2
  have d2 : decide (0 ≤ shard) = true := decide_eq_true hs0
  have d3 : decide (shard < 8) = true := decide_eq_true hs8
  have HFit := Lib.hid hfit
  have HRow := Lib.hid hrow
  have hb := (Below.refl w.heap.size w).alloc (Nat.le_refl _) (.cells #[.int .i64 1, .int .u64 client, .int .u64 seq, .int .i64 shard, .int .i64 segs, .int .u64 pos, .slice ao rs.length cc] 46)
  have hblk := heap_alloc_new w (.cells #[.int .i64 1, .int .u64 client, .int .u64 seq, .int .i64 shard, .int .i64 segs, .int .u64 pos, .slice ao rs.length cc] 46)
  obtain ⟨w1, hw1⟩ : ∃ w1, w1 = w.alloc (.cells #[.int .i64 1, .int .u64 client, .int .u64 seq, .int .i64 shard, .int .i64 segs, .int .u64 pos, .slice ao rs.length cc] 46) := ⟨_, rfl⟩
  rw [← hw1] at hb hblk
  have hsz : w.heap.size < w1.heap.size := (Array.getElem?_eq_some_iff.1 hblk).1
  have HS : Hid (∀ w' : World, Below w1.heap.size w1 w' → (w'.cell? ⟨w.heap.size, 0, none⟩ = some (.int .i64 1) ∧ w'.cell? ⟨w.heap.size, 1, none⟩ = some (.int .u64 client) ∧ w'.cell? ⟨w.heap.size, 2, none⟩ = some (.int .u64 seq) ∧ w'.cell? ⟨w.heap.size, 3, none⟩ = some (.int .i64 shard) ∧ w'.cell? ⟨w.heap.size, 4, none⟩ = some (.int .i64 segs) ∧ w'.cell? ⟨w.heap.size, 5, none⟩ = some (.int .u64 pos) ∧ w'.cell? ⟨w.heap.size, 6, none⟩ = some (.slice ao rs.length cc)) ∧ RowsL w' (.slice ao rs.length cc) rs) := Lib.hid (by
    intro w' hb'
    have e := (hb'.block w.heap.size hsz).trans hblk
    exact ⟨⟨by simp [World.cell?, e], by simp [World.cell?, e], by simp [World.cell?, e], by simp [World.cell?, e], by simp [World.cell?, e], by simp [World.cell?, e], by simp [World.cell?, e]⟩, HV.out.below (hb.trans (hb'.mono hb.size)) (Nat.le_refl _)⟩)
  have HB := Lib.hid hb
  have HW1 := Lib.hid hw1
  clear hv hfit hrow hb hblk hw1
  go_enter Try.func22, Try.ntmps22
  go_wp2_with fail
  rw [← HW1.out]
  have hS0 := (HS.out w1.drew (Below.refl _ _).drew).1
  go_region_held3 (fun w' => w'.cell? ⟨w.heap.size, 0, none⟩ = some (.int .i64 1) ∧ w'.cell? ⟨w.heap.size, 1, none⟩ = some (.int .u64 client) ∧ w'.cell? ⟨w.heap.size, 2, none⟩ = some (.int .u64 seq) ∧ w'.cell? ⟨w.heap.size, 3, none⟩ = some (.int .i64 shard) ∧ w'.cell? ⟨w.heap.size, 4, none⟩ = some (.int .i64 segs) ∧ w'.cell? ⟨w.heap.size, 5, none⟩ = some (.int .u64 pos) ∧ w'.cell? ⟨w.heap.size, 6, none⟩ = some (.slice ao rs.length cc)) (first | exact hS0 | exact hS3 | exact hS2 | exact hS1 | go_keep)
    (first
      | (go_at_call 42
         refine (of_any 1 _).mono ?_
         rintro e wa ⟨rfl, hba⟩
         have hbA := (Below.refl w1.heap.size w1).drew.trans (hba.mono (Nat.le_refl _))
         have hS1 := (HS.out wa hbA).1
         have HBA := Lib.hid hbA
         clear hba hbA)
      | (go_at_call 41
         refine (fits_any _ _ _ _ _ 1 client seq shard segs pos (HS.out _ HBA.out).2).mono ?_
         rintro e wb ⟨rfl, hbb⟩
         rw [HFit.out]
         have hbB := HBA.out.trans (hbb.mono HBA.out.size)
         have hS2 := (HS.out wb hbB).1
         have HBB := Lib.hid hbB
         clear hbb hbB)
      | (go_at_call 43
         refine (rows_any (HS.out _ HBB.out).2 hl).mono ?_
         rintro e wc ⟨rfl, hbc⟩
         rw [HRow.out]
         have hbC := HBB.out.trans (hbc.mono HBB.out.size)
         have hS3 := (HS.out wc hbC).1
         have HBC := Lib.hid hbC
         clear hbc hbC))
  obtain ⟨q0, q1, q2, q3, q4, q5, q6⟩ := hS3
  go_wp2
  go_ret
  exact ⟨rfl, HB.out.trans (HBC.out.mono HB.out.size)⟩
end Go.Proofs.Ytabanackdjlcmaa

namespace Go.Proofs.Ytabanackdjlcmaa
open Go.ChangeShapes Go.WideShapes Go.ChangeAt Go.RowKit Go.Maps
set_option maxRecDepth 100000

/-- What a closure over a command's box answers: is a row another shard's? -/
theorem other_any {w : World} {b : Nat} {id shard : Int} {so : Option Addr} {n c : Nat} (h : w.cell? ⟨b, 3, none⟩ = some (.int .i64 shard)) (hb : b < w.heap.size) :
    Calls Try.prog 45 #[.agg #[.int .i64 id, .slice so n c], .pointer (some ⟨b, 0, none⟩)] w fun e w' => e = .returned (.bool (!(id == shard))) ∧ Below w.heap.size w w' := by
  have hA := (Below.refl w.heap.size w).alloc (Nat.le_refl _) (.cells #[.int .i64 id, .slice so n c] 37)
  have h3 := (hA.cell (p := ⟨b, 3, none⟩) hb).trans h
  have HA := Lib.hid hA
  clear hA
  go_enter Try.func45, Try.ntmps45
  go_wp2
  go_ret
  exact ⟨by first | rfl | simp, HA.out⟩

set_option maxHeartbeats 1000000 in
theorem index_any {w : World} {v : Value} {b : Nat} {shard : Int} {rs : Rw} (hv : RowsL w v rs) (h : w.cell? ⟨b, 3, none⟩ = some (.int .i64 shard)) (hsame : ∀ r ∈ rs, r.1 = shard) :
    Calls Try.prog 60 #[v, .func (.func 45) #[] #[.pointer (some ⟨b, 0, none⟩)]] w
      fun e w' => e = .returned (.int .i64 (-1)) ∧ Below w.heap.size w w' := by
  have HV := Lib.hid hv
  have HSm := Lib.hid hsame
  obtain ⟨ao, c, rfl, hc1, hc2, _⟩ := id hv
  have hbb : b < w.heap.size := World.block_lt_of_cell? w _ h
  clear hv hsame
  go_enter Try.func60, Try.ntmps60
  go_wp2_with fail
  go_loopw [8, 5] (fun i _ wr => ∃ k : Nat, k ≤ rs.length ∧ i = .int .i64 k ∧ Below w.heap.size w wr) (fun i _ _ => rs.length - (intOf i).toNat)
  case atStart => exact ⟨0, by omega, rfl, Below.refl _ _⟩
  case round =>
    obtain ⟨k, hk, rfl, hbl⟩ := hrel
    have HB := Lib.hid hbl
    have hcb := (hbl.cell (World.block_lt_of_cell? w _ h)).trans h
    have hbr : b < wr.heap.size := Nat.lt_of_lt_of_le hbb hbl.size
    clear hbl
    by_cases hlt : k < rs.length
    · obtain ⟨a, so, sc, rfl, q0, q1, hs, hs1, hs2⟩ := (HV.out.below HB.out (Nat.le_refl _)).at k _ (List.getElem?_eq_getElem hlt)
      have hid := HSm.out _ (List.getElem_mem hlt)
      generalize rs[k] = r at *
      obtain ⟨s, xs⟩ := r
      simp only at q0 q1 hs hs1 hid
      subst hid
      have HOth := Lib.hid (other_any (id := s) (so := so) (n := xs.length) (c := sc) hcb hbr)
      have e1 : (s == s) = true := by simp
      clear hs
      go_wp2_with fail
      refine HOth.out.mono ?_
      rintro e w' ⟨rfl, hb2⟩
      rw [e1]
      have HB2 := Lib.hid hb2
      clear hb2
      go_wp2_with fail
      go_roundw
      case rel => exact ⟨k + 1, by omega, by go_num, HB.out.trans (HB2.out.mono HB.out.size)⟩
      case measure => simp [intOf]; omega
    · have hkl : k = rs.length := by omega
      subst hkl
      go_wp2_with fail
      go_ret
      exact ⟨rfl, HB.out⟩
theorem contains_any {w : World} {v : Value} {b : Nat} {shard : Int} {rs : Rw} (hv : RowsL w v rs) (h : w.cell? ⟨b, 3, none⟩ = some (.int .i64 shard)) (hsame : ∀ r ∈ rs, r.1 = shard) :
    Calls Try.prog 44 #[v, .func (.func 45) #[] #[.pointer (some ⟨b, 0, none⟩)]] w
      fun e w' => e = .returned (.bool false) ∧ Below w.heap.size w w' := by
  have HI := Lib.hid (index_any hv h hsame)
  clear hv h hsame
  go_enter Try.func44, Try.ntmps44
  go_wp2_with fail
  refine HI.out.mono ?_
  rintro e w' ⟨rfl, hb⟩
  have HB := Lib.hid hb
  clear hb
  go_wp2_with fail
  go_ret
  exact ⟨rfl, HB.out⟩
end Go.Proofs.Ytabanackdjlcmaa

namespace Go.Proofs.Ytabanackdjlcmaa
open Go.ChangeShapes Go.WideShapes Go.ChangeAt Go.RowKit Go.Maps
set_option maxRecDepth 100000

set_option maxHeartbeats 4000000 in
/-- A shard may be sealed. -/
theorem check_seal {w : World} {c : Cm} {v : Value} (hv : RowsL w v c.rows) (hl : c.rows.length ≤ 1000000) (hA : checkA c = true) (h1 : c.op = 2) (hsame : ∀ r ∈ c.rows, r.1 = c.shard) :
    Calls Try.prog 22 #[cmV c v] w fun e w' => e = .returned (.int .i64 0) ∧ Below w.heap.size w w' := by
  obtain ⟨op, client, seq, shard, segs, pos, rs⟩ := c
  simp only at hv hl h1 hsame
  subst h1
  unfold checkA at hA
  simp only [Bool.and_eq_true, decide_eq_true_eq] at hA
  obtain ⟨⟨⟨⟨⟨ho0, ho4⟩, hfit⟩, hs0⟩, hs8⟩, hrow⟩ := hA
  have HV := Lib.hid hv
  obtain ⟨ao, cc, rfl, hc1, hc2, _⟩ := id hv
  have HSame := Lib.hid hsame
  have d2 : decide (0 ≤ shard) = true := decide_eq_true hs0
  have d3 : decide (shard < 8) = true := decide_eq_true hs8
  have HFit := Lib.hid hfit
  have HRow := Lib.hid hrow
  have hb := (Below.refl w.heap.size w).alloc (Nat.le_refl _) (.cells #[.int .i64 2, .int .u64 client, .int .u64 seq, .int .i64 shard, .int .i64 segs, .int .u64 pos, .slice ao rs.length cc] 46)
  have hblk := heap_alloc_new w (.cells #[.int .i64 2, .int .u64 client, .int .u64 seq, .int .i64 shard, .int .i64 segs, .int .u64 pos, .slice ao rs.length cc] 46)
  obtain ⟨w1, hw1⟩ : ∃ w1, w1 = w.alloc (.cells #[.int .i64 2, .int .u64 client, .int .u64 seq, .int .i64 shard, .int .i64 segs, .int .u64 pos, .slice ao rs.length cc] 46) := ⟨_, rfl⟩
  rw [← hw1] at hb hblk
  have hsz : w.heap.size < w1.heap.size := (Array.getElem?_eq_some_iff.1 hblk).1
  have HS : Hid (∀ w' : World, Below w1.heap.size w1 w' → (w'.cell? ⟨w.heap.size, 0, none⟩ = some (.int .i64 2) ∧ w'.cell? ⟨w.heap.size, 1, none⟩ = some (.int .u64 client) ∧ w'.cell? ⟨w.heap.size, 2, none⟩ = some (.int .u64 seq) ∧ w'.cell? ⟨w.heap.size, 3, none⟩ = some (.int .i64 shard) ∧ w'.cell? ⟨w.heap.size, 4, none⟩ = some (.int .i64 segs) ∧ w'.cell? ⟨w.heap.size, 5, none⟩ = some (.int .u64 pos) ∧ w'.cell? ⟨w.heap.size, 6, none⟩ = some (.slice ao rs.length cc)) ∧ RowsL w' (.slice ao rs.length cc) rs) := Lib.hid (by
    intro w' hb'
    have e := (hb'.block w.heap.size hsz).trans hblk
    exact ⟨⟨by simp [World.cell?, e], by simp [World.cell?, e], by simp [World.cell?, e], by simp [World.cell?, e], by simp [World.cell?, e], by simp [World.cell?, e], by simp [World.cell?, e]⟩, HV.out.below (hb.trans (hb'.mono hb.size)) (Nat.le_refl _)⟩)
  have HB := Lib.hid hb
  have HW1 := Lib.hid hw1
  clear hv hfit hrow hb hblk hw1 hsame
  go_enter Try.func22, Try.ntmps22
  go_wp2_with fail
  rw [← HW1.out]
  have hS0 := (HS.out w1.drew (Below.refl _ _).drew).1
  go_region_held3 (fun w' => w'.cell? ⟨w.heap.size, 0, none⟩ = some (.int .i64 2) ∧ w'.cell? ⟨w.heap.size, 1, none⟩ = some (.int .u64 client) ∧ w'.cell? ⟨w.heap.size, 2, none⟩ = some (.int .u64 seq) ∧ w'.cell? ⟨w.heap.size, 3, none⟩ = some (.int .i64 shard) ∧ w'.cell? ⟨w.heap.size, 4, none⟩ = some (.int .i64 segs) ∧ w'.cell? ⟨w.heap.size, 5, none⟩ = some (.int .u64 pos) ∧ w'.cell? ⟨w.heap.size, 6, none⟩ = some (.slice ao rs.length cc)) (first | exact hS0 | exact hS3 | exact hS2 | exact hS1 | go_keep)
    (first
      | (go_at_call 42
         refine (of_any 2 _).mono ?_
         rintro e wa ⟨rfl, hba⟩
         have hbA := (Below.refl w1.heap.size w1).drew.trans (hba.mono (Nat.le_refl _))
         have hS1 := (HS.out wa hbA).1
         have HBA := Lib.hid hbA
         clear hba hbA)
      | (go_at_call 41
         refine (fits_any _ _ _ _ _ 2 client seq shard segs pos (HS.out _ HBA.out).2).mono ?_
         rintro e wb ⟨rfl, hbb⟩
         rw [HFit.out]
         have hbB := HBA.out.trans (hbb.mono HBA.out.size)
         have hS2 := (HS.out wb hbB).1
         have HBB := Lib.hid hbB
         clear hbb hbB)
      | (go_at_call 43
         refine (rows_any (HS.out _ HBB.out).2 hl).mono ?_
         rintro e wc ⟨rfl, hbc⟩
         rw [HRow.out]
         have hbC := HBB.out.trans (hbc.mono HBB.out.size)
         have hS3 := (HS.out wc hbC).1
         have HBC := Lib.hid hbC
         clear hbc hbC))
  have HCn := Lib.hid (contains_any (HS.out _ HBC.out).2 hS3.2.2.2.1 HSame.out)
  obtain ⟨q0, q1, q2, q3, q4, q5, q6⟩ := hS3
  go_wp2_with fail
  refine HCn.out.mono ?_
  rintro e wd ⟨rfl, hbd⟩
  have HBD := Lib.hid (HBC.out.trans (hbd.mono HBC.out.size))
  clear hbd
  go_wp2_with fail
  go_ret
  exact ⟨rfl, HB.out.trans (HBD.out.mono HB.out.size)⟩
end Go.Proofs.Ytabanackdjlcmaa
