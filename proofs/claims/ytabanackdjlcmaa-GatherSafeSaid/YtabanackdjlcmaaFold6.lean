/-
  Contracts of package fold: the closure that cuts; a cut by nobody.
-/
import Derived.Test.YtabanackdjlcmaaFold5
namespace Go.Proofs.Ytabanackdjlcmaa
open Go.ChangeShapes Go.WideShapes Go.ChangeAt Go.RowKit Go.Maps
set_option maxRecDepth 100000

theorem do1_any (w1 : World) (b0 b : Nat) (op client seq shard segs pos : Int) (v : Value) (hv2 : ∃ ao n c, v = .slice ao n c) (hb : w1.cell? ⟨b, 0, none⟩ = some (.pointer (some ⟨b0, 0, none⟩))) {Q : Int → World → Prop}
    (hc : ∀ w2, Below w1.heap.size w1 w2 → Calls Try.prog 65 #[.pointer (some ⟨b0, 0, none⟩), v] w2 fun e w' => ∃ x, e = .returned (.int .i64 x) ∧ Q x w') :
    Calls Try.prog 64 #[.agg #[.int .i64 op, .int .u64 client, .int .u64 seq, .int .i64 shard, .int .i64 segs, .int .u64 pos, v], .pointer (some ⟨b, 0, none⟩)] w1 fun e w' => ∃ x, e = .returned (.int .i64 x) ∧ Q x w' := by
  obtain ⟨ao, n, c, rfl⟩ := hv2
  have HC := Lib.hid hc
  have hA := (Below.refl w1.heap.size w1).alloc (Nat.le_refl _) (.cells #[.int .i64 op, .int .u64 client, .int .u64 seq, .int .i64 shard, .int .i64 segs, .int .u64 pos, .slice ao n c] 46)
  have h3 := (hA.cell (World.block_lt_of_cell? w1 _ hb)).trans hb
  have HA := Lib.hid hA
  clear hA hc
  go_enter Try.func64, Try.ntmps64
  go_wp2_with fail
  refine (HC.out _ HA.out).mono ?_
  rintro e w' ⟨x, rfl, hq⟩
  have HQ := Lib.hid hq
  clear hq
  go_wp2_with fail
  go_ret
  exact ⟨x, rfl, HQ.out⟩
/-- A cut that nobody asked for by number: what 'cut' answers. -/
theorem apply_cut (w : World) (b0 : Nat) (v : Value) {rs : Rw} (hv : RowsL w v rs) (hl : rs.length ≤ 1000000) (hok : rowsB rs = true) {Q : Int → World → Prop}
    (hc : ∀ w2, Below w.heap.size w w2 → Calls Try.prog 65 #[.pointer (some ⟨b0, 0, none⟩), v] w2 fun e w' => ∃ x, e = .returned (.int .i64 x) ∧ Q x w') :
    Calls Try.prog 25 #[.pointer (some ⟨b0, 0, none⟩), .agg #[.int .i64 4, .int .u64 0, .int .u64 0, .int .i64 0, .int .i64 0, .int .u64 0, v]] w fun e w' => ∃ x, e = .returned (.int .i64 x) ∧ Q x w' := by
  have hv2 : ∃ ao n c, v = .slice ao n c := by obtain ⟨ao, c, e, _⟩ := hv; exact ⟨ao, _, c, e⟩
  refine apply_nobody w b0 4 0 0 0 v hv2 (fun w1 hb1 => ?_) (fun w1 hb1 => ?_)
  · exact check_ok (c := ⟨4, 0, 0, 0, 0, 0, rs⟩) (hv.below hb1 (Nat.le_refl _)) hl (by unfold checkA; simp [hok, fitsB, hasW, hasS, hasG, hasP, hasR]) rfl rfl
  · refine do_cut w1 b0 0 0 0 0 0 v hv2 (fun w2 hb2 hcell => ?_)
    exact do1_any w2 b0 _ _ _ _ _ _ _ v hv2 hcell (fun w3 hb3 => hc w3 (hb1.trans ((hb2.trans (hb3.mono hb2.size)).mono hb1.size)))
end Go.Proofs.Ytabanackdjlcmaa
