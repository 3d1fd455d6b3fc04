/-
  FoldErrors: what the law's own helper tells.
-/
import Derived.Test.YtabanackdjlcmaaFErrP
import Derived.Test.YtabanackdjlcmaaConf8
namespace Go.Proofs.Ytabanackdjlcmaa
open Go.ChangeShapes Go.WideShapes Go.ChangeAt Go.RowKit Go.Maps
set_option maxRecDepth 100000

def rowShort (r : Int × List Int) : Bool := decide (r.2.length ≤ 8)
def shortB (rs : Rw) : Bool := decide (rs.length ≤ 12) && rs.all rowShort
theorem short_take (rs : Rw) (k : Nat) (r : Int × List Int) (h : rs[k]? = some r) (hp : (rs.take k).all rowShort = true) (hr : r.2.length ≤ 8) : (rs.take (k + 1)).all rowShort = true := by
  obtain ⟨hlt, e⟩ := List.getElem?_eq_some_iff.1 h
  rw [List.take_succ_eq_append_getElem hlt, List.all_append, hp, e]
  simp [rowShort, hr]
theorem short_iff {rs : Rw} (h : shortB rs = true) : rs.length ≤ 12 ∧ ∀ r ∈ rs, r.2.length ≤ 8 := by
  unfold shortB at h
  simp only [Bool.and_eq_true, decide_eq_true_eq, List.all_eq_true, rowShort] at h
  exact h
set_option maxHeartbeats 1000000 in
theorem short_any {w : World} {c : Cm} {v : Value} (hv : RowsL w v c.rows) :
    Calls Try.prog 32 #[cmV c v] w fun e w' => e = .returned (.bool (shortB c.rows)) ∧ Below w.heap.size w w' := by
  obtain ⟨op, client, seq, shard, segs, pos, rs⟩ := c
  simp only at hv
  unfold cmV
  simp only
  have HV := Lib.hid hv
  obtain ⟨ao, c, rfl, hc1, hc2, _⟩ := id hv
  clear hv
  by_cases hl : rs.length ≤ 12
  rotate_left
  · have hd : (12 : Int) < (rs.length : Int) := by omega
    have hR : shortB rs = false := by unfold shortB; rw [decide_eq_false hl]; rfl
    rw [hR]
    go_enter Try.func32, Try.ntmps32
    go_wp2_with fail
    go_ret
    exact ⟨rfl, (Below.refl _ _).alloc (Nat.le_refl _) _⟩
  · have hd : decide ((12 : Int) < (rs.length : Int)) = false := decide_eq_false (by omega)
    have HL := Lib.hid hl
    go_enter Try.func32, Try.ntmps32
    go_wp2_with fail
    have hvb := HV.out.below ((Below.refl w.heap.size w).alloc (Nat.le_refl _) (.cells #[.int .i64 op, .int .u64 client, .int .u64 seq, .int .i64 shard, .int .i64 segs, .int .u64 pos, .slice ao rs.length c] 46)) (Nat.le_refl _)
    have HVB := Lib.hid hvb
    clear hvb
    go_loopw [3] (fun i wr => ∃ k : Nat, k ≤ rs.length ∧ i = .int .i64 k ∧ (rs.take k).all rowShort = true ∧ Below (w.heap.size + 1) (w.alloc (.cells #[.int .i64 op, .int .u64 client, .int .u64 seq, .int .i64 shard, .int .i64 segs, .int .u64 pos, .slice ao rs.length c] 46)) wr) (fun i _ => rs.length - (intOf i).toNat)
    case atStart => exact ⟨0, by omega, rfl, rfl, Below.refl _ _⟩
    case round =>
      obtain ⟨k, hk, rfl, hsm, hbl⟩ := hrel
      have HB := Lib.hid hbl
      have HSm := Lib.hid hsm
      have hc6 : wr.cell? ⟨w.heap.size, 6, none⟩ = some (.slice ao rs.length c) := (hbl.cell (p := ⟨w.heap.size, 6, none⟩) (by simp)).trans (World.news_of_block (heap_alloc_new w _) 6 _ rfl)
      clear hbl hsm
      by_cases hlt : k < rs.length
      · obtain ⟨a, so, sc, rfl, q0, q1, hs, hs1, hs2⟩ := (HVB.out.below HB.out (by simp)).at k _ (List.getElem?_eq_getElem hlt)
        have hst := short_take rs k _ (List.getElem?_eq_getElem hlt) HSm.out
        have hmem := List.getElem_mem hlt
        generalize rs[k] = r at *
        obtain ⟨s, xs⟩ := r
        simp only at q0 q1 hs hs1 hst
        have HSt := Lib.hid hst
        have HMm := Lib.hid hmem
        clear hs hst hmem
        by_cases hx : xs.length ≤ 8
        · have hxd : decide ((8 : Int) < (xs.length : Int)) = false := decide_eq_false (by omega)
          have HYes := Lib.hid (HSt.out hx)
          go_wp2_with fail
          go_roundw
          case rel => exact ⟨k + 1, by omega, by go_num, HYes.out, HB.out⟩
          case measure => simp [intOf]; omega
        · have hxd : (8 : Int) < (xs.length : Int) := by omega
          have HNo : Hid (shortB rs = false) := Lib.hid (by
            unfold shortB
            have : rs.all rowShort = false := by rw [List.all_eq_false]; exact ⟨_, HMm.out, by simp [rowShort]; omega⟩
            rw [this, Bool.and_false])
          go_wp2_with fail
          go_ret
          exact ⟨by rw [HNo.out]; rfl, ((Below.refl _ _).alloc (Nat.le_refl _) _).trans (HB.out.mono (by simp))⟩
      · have hkl : k = rs.length := by omega
        subst hkl
        rw [List.take_length] at HSm
        have HYes : Hid (shortB rs = true) := Lib.hid (by unfold shortB; rw [HSm.out, decide_eq_true HL.out]; rfl)
        go_wp2_with fail
        go_ret
        exact ⟨by rw [HYes.out]; rfl, ((Below.refl _ _).alloc (Nat.le_refl _) _).trans (HB.out.mono (by simp))⟩
end Go.Proofs.Ytabanackdjlcmaa
