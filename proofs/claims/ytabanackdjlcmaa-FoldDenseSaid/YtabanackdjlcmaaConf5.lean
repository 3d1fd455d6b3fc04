/-
  Contracts of package conf: Check of a seal.
-/
import Derived.Test.YtabanackdjlcmaaConf4
namespace Go.Proofs.Ytabanackdjlcmaa
open Go.ChangeShapes Go.WideShapes Go.ChangeAt Go.RowKit Go.Maps
set_option maxRecDepth 100000

/-- What a closure over a command's box answers: is a row another shard's? -/
theorem other_any {w : World} {b : Nat} {id shard : Int} {so : Option Addr} {n c : Nat} (h : w.cell? ⟨b, 3, none⟩ = some (.int .i64 shard)) (hb : b < w.heap.size) :
    Calls Try.prog 45 #[.agg #[.int .i64 id, .slice so n c], .pointer (some ⟨b, 0, none⟩)] w fun e w' => e = .returned (.bool (!(id == shard))) ∧ Below w.heap.size w w' := by
  have hA := (Below.refl w.heap.size w).alloc (Nat.le_refl _) (.cells #[.int .i64 id, .slice so n c] 37)
  have h3 := (hA.cell (p := ⟨b, 3, none⟩) hb).trans h
  have HA := Lib.hid hA
  clear hA
  go_enter Try.func45, Try.ntmps45
  go_wp2
  go_ret
  exact ⟨by first | rfl | simp, HA.out⟩

set_option maxHeartbeats 1000000 in
theorem index_any {w : World} {v : Value} {b : Nat} {shard : Int} {rs : Rw} (hv : RowsL w v rs) (h : w.cell? ⟨b, 3, none⟩ = some (.int .i64 shard)) (hsame : ∀ r ∈ rs, r.1 = shard) :
    Calls Try.prog 60 #[v, .func (.func 45) #[] #[.pointer (some ⟨b, 0, none⟩)]] w
      fun e w' => e = .returned (.int .i64 (-1)) ∧ Below w.heap.size w w' := by
  have HV := Lib.hid hv
  have HSm := Lib.hid hsame
  obtain ⟨ao, c, rfl, hc1, hc2, _⟩ := id hv
  have hbb : b < w.heap.size := World.block_lt_of_cell? w _ h
  clear hv hsame
  go_enter Try.func60, Try.ntmps60
  go_wp2_with fail
  go_loopw [8, 5] (fun i _ wr => ∃ k : Nat, k ≤ rs.length ∧ i = .int .i64 k ∧ Below w.heap.size w wr) (fun i _ _ => rs.length - (intOf i).toNat)
  case atStart => exact ⟨0, by omega, rfl, Below.refl _ _⟩
  case round =>
    obtain ⟨k, hk, rfl, hbl⟩ := hrel
    have HB := Lib.hid hbl
    have hcb := (hbl.cell (World.block_lt_of_cell? w _ h)).trans h
    have hbr : b < wr.heap.size := Nat.lt_of_lt_of_le hbb hbl.size
    clear hbl
    by_cases hlt : k < rs.length
    · obtain ⟨a, so, sc, rfl, q0, q1, hs, hs1, hs2⟩ := (HV.out.below HB.out (Nat.le_refl _)).at k _ (List.getElem?_eq_getElem hlt)
      have hid := HSm.out _ (List.getElem_mem hlt)
      generalize rs[k] = r at *
      obtain ⟨s, xs⟩ := r
      simp only at q0 q1 hs hs1 hid
      subst hid
      have HOth := Lib.hid (other_any (id := s) (so := so) (n := xs.length) (c := sc) hcb hbr)
      have e1 : (s == s) = true := by simp
      clear hs
      go_wp2_with fail
      refine HOth.out.mono ?_
      rintro e w' ⟨rfl, hb2⟩
      rw [e1]
      have HB2 := Lib.hid hb2
      clear hb2
      go_wp2_with fail
      go_roundw
      case rel => exact ⟨k + 1, by omega, by go_num, HB.out.trans (HB2.out.mono HB.out.size)⟩
      case measure => simp [intOf]; omega
    · have hkl : k = rs.length := by omega
      subst hkl
      go_wp2_with fail
      go_ret
      exact ⟨rfl, HB.out⟩
theorem contains_any {w : World} {v : Value} {b : Nat} {shard : Int} {rs : Rw} (hv : RowsL w v rs) (h : w.cell? ⟨b, 3, none⟩ = some (.int .i64 shard)) (hsame : ∀ r ∈ rs, r.1 = shard) :
    Calls Try.prog 44 #[v, .func (.func 45) #[] #[.pointer (some ⟨b, 0, none⟩)]] w
      fun e w' => e = .returned (.bool false) ∧ Below w.heap.size w w' := by
  have HI := Lib.hid (index_any hv h hsame)
  clear hv h hsame
  go_enter Try.func44, Try.ntmps44
  go_wp2_with fail
  refine HI.out.mono ?_
  rintro e w' ⟨rfl, hb⟩
  have HB := Lib.hid hb
  clear hb
  go_wp2_with fail
  go_ret
  exact ⟨rfl, HB.out⟩
end Go.Proofs.Ytabanackdjlcmaa
