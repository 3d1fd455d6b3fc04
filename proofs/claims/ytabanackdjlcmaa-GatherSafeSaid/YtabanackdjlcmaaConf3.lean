/-
  Contracts of package conf: Check.
-/
import Derived.Test.YtabanackdjlcmaaConf2
namespace Go.Proofs.Ytabanackdjlcmaa
open Go.ChangeShapes Go.WideShapes Go.ChangeAt Go.RowKit Go.Maps
set_option maxRecDepth 100000

/-- A command. -/
structure Cm where
  op : Int
  client : Int
  seq : Int
  shard : Int
  segs : Int
  pos : Int
  rows : Rw
/-- All rows are the shard's. -/
def sameShard (rs : Rw) (s : Int) : Bool := rs.all fun r => r.1 == s
def checkA (c : Cm) : Bool := decide (0 ≤ c.op) && decide (c.op ≤ 4) && fitsB (hasW c.op) (hasS c.op) (hasG c.op) (hasP c.op) (hasR c.op) c.client c.seq c.shard c.segs c.pos c.rows.length && decide (0 ≤ c.shard) && decide (c.shard < 8) && rowsB c.rows
def checkB (c : Cm) : Bool := checkA c && (c.op != 1 || (decide (1 ≤ c.segs) && decide (c.segs ≤ 4))) && (c.op != 2 || sameShard c.rows c.shard)
def checkE (c : Cm) : Int := if checkB c = true then 0 else 1
abbrev cmV (c : Cm) (rv : Value) : Value := .agg #[.int .i64 c.op, .int .u64 c.client, .int .u64 c.seq, .int .i64 c.shard, .int .i64 c.segs, .int .u64 c.pos, rv]

set_option maxHeartbeats 4000000 in
/-- A command that may be, of an op that asks nothing more. -/
theorem check_ok {w : World} {c : Cm} {v : Value} (hv : RowsL w v c.rows) (hl : c.rows.length ≤ 1000000) (hA : checkA c = true) (h1 : (c.op == 1) = false) (h2 : (c.op == 2) = false) :
    Calls Try.prog 22 #[cmV c v] w fun e w' => e = .returned (.int .i64 0) ∧ Below w.heap.size w w' := by
  obtain ⟨op, client, seq, shard, segs, pos, rs⟩ := c
  simp only at hv hl h1 h2
  unfold checkA at hA
  simp only [Bool.and_eq_true, decide_eq_true_eq] at hA
  obtain ⟨⟨⟨⟨⟨ho0, ho4⟩, hfit⟩, hs0⟩, hs8⟩, hrow⟩ := hA
  have HV := Lib.hid hv
  obtain ⟨ao, cc, rfl, hc1, hc2, _⟩ := id hv
  have d0 : decide (0 ≤ op) = true := decide_eq_true ho0
  have d1 : decide (op ≤ 4) = true := decide_eq_true ho4
  have d2 : decide (0 ≤ shard) = true := decide_eq_true hs0
  have d3 : decide (shard < 8) = true := decide_eq_true hs8
  have HFit := Lib.hid hfit
  have HRow := Lib.hid hrow
  have hb := (Below.refl w.heap.size w).alloc (Nat.le_refl _) (.cells #[.int .i64 op, .int .u64 client, .int .u64 seq, .int .i64 shard, .int .i64 segs, .int .u64 pos, .slice ao rs.length cc] 46)
  have hblk := heap_alloc_new w (.cells #[.int .i64 op, .int .u64 client, .int .u64 seq, .int .i64 shard, .int .i64 segs, .int .u64 pos, .slice ao rs.length cc] 46)
  obtain ⟨w1, hw1⟩ : ∃ w1, w1 = w.alloc (.cells #[.int .i64 op, .int .u64 client, .int .u64 seq, .int .i64 shard, .int .i64 segs, .int .u64 pos, .slice ao rs.length cc] 46) := ⟨_, rfl⟩
  rw [← hw1] at hb hblk
  have hsz : w.heap.size < w1.heap.size := (Array.getElem?_eq_some_iff.1 hblk).1
  have HS : Hid (∀ w' : World, Below w1.heap.size w1 w' → (w'.cell? ⟨w.heap.size, 0, none⟩ = some (.int .i64 op) ∧ w'.cell? ⟨w.heap.size, 1, none⟩ = some (.int .u64 client) ∧ w'.cell? ⟨w.heap.size, 2, none⟩ = some (.int .u64 seq) ∧ w'.cell? ⟨w.heap.size, 3, none⟩ = some (.int .i64 shard) ∧ w'.cell? ⟨w.heap.size, 4, none⟩ = some (.int .i64 segs) ∧ w'.cell? ⟨w.heap.size, 5, none⟩ = some (.int .u64 pos) ∧ w'.cell? ⟨w.heap.size, 6, none⟩ = some (.slice ao rs.length cc)) ∧ RowsL w' (.slice ao rs.length cc) rs) := Lib.hid (by
    intro w' hb'
    have e := (hb'.block w.heap.size hsz).trans hblk
    exact ⟨⟨by simp [World.cell?, e], by simp [World.cell?, e], by simp [World.cell?, e], by simp [World.cell?, e], by simp [World.cell?, e], by simp [World.cell?, e], by simp [World.cell?, e]⟩, HV.out.below (hb.trans (hb'.mono hb.size)) (Nat.le_refl _)⟩)
  have HB := Lib.hid hb
  have HW1 := Lib.hid hw1
  clear hv hfit hrow hb hblk hw1
  go_enter Try.func22, Try.ntmps22
  go_wp2_with fail
  rw [← HW1.out]
  have hS0 := (HS.out w1.drew (Below.refl _ _).drew).1
  go_region_held3 (fun w' => w'.cell? ⟨w.heap.size, 0, none⟩ = some (.int .i64 op) ∧ w'.cell? ⟨w.heap.size, 1, none⟩ = some (.int .u64 client) ∧ w'.cell? ⟨w.heap.size, 2, none⟩ = some (.int .u64 seq) ∧ w'.cell? ⟨w.heap.size, 3, none⟩ = some (.int .i64 shard) ∧ w'.cell? ⟨w.heap.size, 4, none⟩ = some (.int .i64 segs) ∧ w'.cell? ⟨w.heap.size, 5, none⟩ = some (.int .u64 pos) ∧ w'.cell? ⟨w.heap.size, 6, none⟩ = some (.slice ao rs.length cc)) (first | exact hS0 | exact hS3 | exact hS2 | exact hS1 | go_keep)
    (first
      | (go_at_call 42
         refine (of_any op _).mono ?_
         rintro e wa ⟨rfl, hba⟩
         have hbA := (Below.refl w1.heap.size w1).drew.trans (hba.mono (Nat.le_refl _))
         have hS1 := (HS.out wa hbA).1
         have HBA := Lib.hid hbA
         clear hba hbA)
      | (go_at_call 41
         refine (fits_any _ _ _ _ _ op client seq shard segs pos (HS.out _ HBA.out).2).mono ?_
         rintro e wb ⟨rfl, hbb⟩
         rw [HFit.out]
         have hbB := HBA.out.trans (hbb.mono HBA.out.size)
         have hS2 := (HS.out wb hbB).1
         have HBB := Lib.hid hbB
         clear hbb hbB)
      | (go_at_call 43
         refine (rows_any (HS.out _ HBB.out).2 hl).mono ?_
         rintro e wc ⟨rfl, hbc⟩
         rw [HRow.out]
         have hbC := HBB.out.trans (hbc.mono HBB.out.size)
         have hS3 := (HS.out wc hbC).1
         have HBC := Lib.hid hbC
         clear hbc hbC))
  obtain ⟨q0, q1, q2, q3, q4, q5, q6⟩ := hS3
  go_wp2
  go_ret
  exact ⟨rfl, HB.out.trans (HBC.out.mono HB.out.size)⟩
end Go.Proofs.Ytabanackdjlcmaa
