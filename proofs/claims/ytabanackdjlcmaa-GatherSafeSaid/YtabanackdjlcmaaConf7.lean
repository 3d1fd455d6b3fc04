/-
  Contracts of package conf: are all rows a shard's? Whatever they are.
-/
import Derived.Test.YtabanackdjlcmaaConf6
namespace Go.Proofs.Ytabanackdjlcmaa
open Go.ChangeShapes Go.WideShapes Go.ChangeAt Go.RowKit Go.Maps
set_option maxRecDepth 100000

/-- Where the first row of another shard stands; below 0: there is none. -/
def RetFr (b : Bool) (w : World) (e : Ending) (w' : World) : Prop := ∃ i : Int, e = .returned (.int .i64 i) ∧ decide (0 ≤ i) = b ∧ Below w.heap.size w w'
theorem sameShard_take (rs : Rw) (s : Int) (k : Nat) (r : Int × List Int) (h : rs[k]? = some r) (hp : sameShard (rs.take k) s = true) : sameShard (rs.take (k + 1)) s = (r.1 == s) := by
  obtain ⟨hlt, e⟩ := List.getElem?_eq_some_iff.1 h
  unfold sameShard at *
  rw [List.take_succ_eq_append_getElem hlt, List.all_append, hp, e]
  simp
set_option maxHeartbeats 1000000 in
theorem indexr_any {w : World} {v : Value} {b : Nat} {shard : Int} {rs : Rw} (hv : RowsL w v rs) (h : w.cell? ⟨b, 3, none⟩ = some (.int .i64 shard)) :
    Calls Try.prog 60 #[v, .func (.func 45) #[] #[.pointer (some ⟨b, 0, none⟩)]] w (RetFr (!sameShard rs shard) w) := by
  have HV := Lib.hid hv
  obtain ⟨ao, c, rfl, hc1, hc2, _⟩ := id hv
  have hbb : b < w.heap.size := World.block_lt_of_cell? w _ h
  clear hv
  go_enter Try.func60, Try.ntmps60
  go_wp2_with fail
  go_loopw [8, 5] (fun i _ wr => ∃ k : Nat, k ≤ rs.length ∧ i = .int .i64 k ∧ sameShard (rs.take k) shard = true ∧ Below w.heap.size w wr) (fun i _ _ => rs.length - (intOf i).toNat)
  case atStart => exact ⟨0, by omega, rfl, rfl, Below.refl _ _⟩
  case round =>
    obtain ⟨k, hk, rfl, hsm, hbl⟩ := hrel
    have HB := Lib.hid hbl
    have HSm := Lib.hid hsm
    have hcb := (hbl.cell (World.block_lt_of_cell? w _ h)).trans h
    have hbr : b < wr.heap.size := Nat.lt_of_lt_of_le hbb hbl.size
    clear hbl hsm
    by_cases hlt : k < rs.length
    · obtain ⟨a, so, sc, rfl, q0, q1, hs, hs1, hs2⟩ := (HV.out.below HB.out (Nat.le_refl _)).at k _ (List.getElem?_eq_getElem hlt)
      have hst := sameShard_take rs shard k _ (List.getElem?_eq_getElem hlt) HSm.out
      have hmem := List.getElem_mem hlt
      generalize rs[k] = r at *
      obtain ⟨s, xs⟩ := r
      simp only at q0 q1 hs hs1 hst
      have HOth := Lib.hid (other_any (id := s) (so := so) (n := xs.length) (c := sc) hcb hbr)
      have HSt := Lib.hid hst
      have HMm := Lib.hid hmem
      clear hs hst hmem
      go_wp2_with fail
      refine HOth.out.mono ?_
      rintro e w' ⟨rfl, hb2⟩
      have HB2 := Lib.hid hb2
      clear hb2
      cases e1 : (s == shard)
      · have HNo : Hid (sameShard rs shard = false) := Lib.hid (by unfold sameShard; rw [List.all_eq_false]; exact ⟨_, HMm.out, by simp only; rw [e1]; simp⟩)
        clear e1
        go_wp2_with fail
        go_ret
        exact ⟨(k : Int), rfl, by rw [HNo.out]; simp, HB.out.trans (HB2.out.mono HB.out.size)⟩
      · have HYes : Hid (sameShard (rs.take (k + 1)) shard = true) := Lib.hid (by rw [HSt.out, e1])
        clear e1
        go_wp2_with fail
        go_roundw
        case rel => exact ⟨k + 1, by omega, by go_num, HYes.out, HB.out.trans (HB2.out.mono HB.out.size)⟩
        case measure => simp [intOf]; omega
    · have hkl : k = rs.length := by omega
      subst hkl
      rw [List.take_length] at HSm
      go_wp2_with fail
      go_ret
      exact ⟨-1, rfl, by rw [HSm.out]; decide, HB.out⟩
theorem containsr_any {w : World} {v : Value} {b : Nat} {shard : Int} {rs : Rw} (hv : RowsL w v rs) (h : w.cell? ⟨b, 3, none⟩ = some (.int .i64 shard)) :
    Calls Try.prog 44 #[v, .func (.func 45) #[] #[.pointer (some ⟨b, 0, none⟩)]] w
      fun e w' => e = .returned (.bool (!sameShard rs shard)) ∧ Below w.heap.size w w' := by
  have HI := Lib.hid (indexr_any hv h)
  clear hv h
  go_enter Try.func44, Try.ntmps44
  go_wp2_with fail
  refine HI.out.mono ?_
  rintro e w' ⟨i, rfl, hi, hb⟩
  have HB := Lib.hid hb
  clear hb
  go_wp2_with fail
  go_ret
  exact ⟨rfl, HB.out⟩
end Go.Proofs.Ytabanackdjlcmaa
