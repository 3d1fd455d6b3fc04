/-
  Contracts of package fold: Apply of a command of nobody.
-/
import Derived.Test.YtabanackdjlcmaaFold4
import Derived.Test.YtabanackdjlcmaaConf6
namespace Go.Proofs.Ytabanackdjlcmaa
open Go.ChangeShapes Go.WideShapes Go.ChangeAt Go.RowKit Go.Maps
set_option maxRecDepth 100000

set_option maxHeartbeats 1000000 in
theorem apply_nobody (w : World) (b0 : Nat) (op shard segs pos : Int) (v : Value) (hv2 : ∃ ao n c, v = .slice ao n c) {Q : Int → World → Prop}
    (hck : ∀ w1, Below w.heap.size w w1 → Calls Try.prog 22 #[.agg #[.int .i64 op, .int .u64 0, .int .u64 0, .int .i64 shard, .int .i64 segs, .int .u64 pos, v]] w1 fun e w' => e = .returned (.int .i64 0) ∧ Below w1.heap.size w1 w')
    (hdo : ∀ w1, Below w.heap.size w w1 → Calls Try.prog 46 #[.pointer (some ⟨b0, 0, none⟩), .agg #[.int .i64 op, .int .u64 0, .int .u64 0, .int .i64 shard, .int .i64 segs, .int .u64 pos, v]] w1 fun e w' => ∃ x, e = .returned (.int .i64 x) ∧ Q x w') :
    Calls Try.prog 25 #[.pointer (some ⟨b0, 0, none⟩), .agg #[.int .i64 op, .int .u64 0, .int .u64 0, .int .i64 shard, .int .i64 segs, .int .u64 pos, v]] w fun e w' => ∃ x, e = .returned (.int .i64 x) ∧ Q x w' := by
  obtain ⟨ao, n, c, rfl⟩ := hv2
  have HCk := Lib.hid hck
  have HDo := Lib.hid hdo
  have hb := (Below.refl w.heap.size w).alloc (Nat.le_refl _) (.cells #[.int .i64 op, .int .u64 0, .int .u64 0, .int .i64 shard, .int .i64 segs, .int .u64 pos, .slice ao n c] 46)
  have hblk := heap_alloc_new w (.cells #[.int .i64 op, .int .u64 0, .int .u64 0, .int .i64 shard, .int .i64 segs, .int .u64 pos, .slice ao n c] 46)
  have HB := Lib.hid hb
  have HBlk := Lib.hid hblk
  clear hck hdo hb hblk
  go_enter Try.func25, Try.ntmps25
  go_wp2_with fail
  refine (HCk.out _ HB.out).mono ?_
  rintro e w2 ⟨rfl, hb2⟩
  have k2 := (hb2.block w.heap.size (by simp)).trans HBlk.out
  have q0 : w2.cell? ⟨w.heap.size, 0, none⟩ = some (.int .i64 op) := by simp [World.cell?, k2]
  have q1 : w2.cell? ⟨w.heap.size, 1, none⟩ = some (.int .u64 0) := by simp [World.cell?, k2]
  have q2 : w2.cell? ⟨w.heap.size, 2, none⟩ = some (.int .u64 0) := by simp [World.cell?, k2]
  have q3 : w2.cell? ⟨w.heap.size, 3, none⟩ = some (.int .i64 shard) := by simp [World.cell?, k2]
  have q4 : w2.cell? ⟨w.heap.size, 4, none⟩ = some (.int .i64 segs) := by simp [World.cell?, k2]
  have q5 : w2.cell? ⟨w.heap.size, 5, none⟩ = some (.int .u64 pos) := by simp [World.cell?, k2]
  have q6 : w2.cell? ⟨w.heap.size, 6, none⟩ = some (.slice ao n c) := by simp [World.cell?, k2]
  have hsz : w.heap.size < w2.heap.size := (Array.getElem?_eq_some_iff.1 k2).1
  have hB2 := HB.out.trans (hb2.mono HB.out.size)
  have hA := (Below.refl w2.heap.size w2).alloc (Nat.le_refl _) (.cells #[.int .u64 0, .int .u64 0] 91)
  have hl := fun {o : Nat} {u : Value} (h : w2.cell? ⟨w.heap.size, o, none⟩ = some u) => (hA.cell (p := ⟨w.heap.size, o, none⟩) hsz).trans h
  have p0 := hl q0
  have p1 := hl q1
  have p2 := hl q2
  have p3 := hl q3
  have p4 := hl q4
  have p5 := hl q5
  have p6 := hl q6
  have HB3 := Lib.hid (hB2.trans (hA.mono hB2.size))
  clear k2 hb2 hl hA hB2
  go_wp2_with fail
  refine (HDo.out _ HB3.out).mono ?_
  rintro e w4 ⟨x, rfl, hq⟩
  have HQ := Lib.hid hq
  clear hq
  go_wp2_with fail
  go_ret
  exact ⟨x, rfl, HQ.out⟩
end Go.Proofs.Ytabanackdjlcmaa
