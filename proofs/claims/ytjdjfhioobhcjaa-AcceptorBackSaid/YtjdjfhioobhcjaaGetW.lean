/-
  Package acceptor: votes as bytes: Put.
-/
import Derived.Test.YtjdjfhioobhcjaaNumS
import Derived.Test.YtjdjfhioobhcjaaGetP
namespace Go.Proofs.Ytjdjfhioobhcjaa
open Go.ChangeShapes Go.WideShapes Go.ChangeAt Go.RowKit Go.Maps
set_option maxRecDepth 100000

theorem putVs_take {hs : List Vt} {k : Nat} {s : Vt} (h : hs[k]? = some s) : putVs (hs.take (k + 1)) = putVs (hs.take k) ++ putU s.slot ++ putU s.ballot ++ putB s.val := by
  obtain ⟨q1, q2⟩ := List.getElem?_eq_some_iff.1 h
  rw [List.take_succ_eq_append_getElem q1, q2, putVs_snoc]
  simp [List.append_assoc]
set_option maxHeartbeats 2000000 in
theorem put_any {w : World} {v : Value} {hs : List Vt} (h : VtL w v hs) (hu : ∀ s ∈ hs, U1 s.slot ∧ U1 s.ballot) (hl : hs.length ≤ 1000) (hm : ∀ s ∈ hs, s.val.length ≤ 100000) :
    Calls Try.prog 49 #[v] w fun e w' => ∃ ao c, e = .returned (.slice ao (putV hs).length c) ∧ w'.ownsRow w.heap.size 5 1 (.slice ao (putV hs).length c) (putV hs).length (u8s (putV hs)) ∧ Below w.heap.size w w' := by
  obtain ⟨ao, c, rfl, h1, h2, hx⟩ := h
  have HX := Lib.hid hx
  have HU := Lib.hid hu
  have HM := Lib.hid hm
  have hwl : IntKind.u64.wrap (hs.length : Int) = (hs.length : Int) := IntWalk.u64_in _ (by omega)
  have hpl := putU_len (hs.length : Int)
  have hps := sz_le (hs.length : Int)
  have HP := Lib.hid hpl
  clear hx hu hm hpl
  go_enter Try.func49, Try.ntmps49
  go_wp2_with fail
  refine ((SepW.nil (Below.refl w.heap.size w)).wrNew).mono ?_
  rintro e w1 ⟨b0, D0, rfl, hs1⟩
  have HS1 := Lib.hid hs1
  clear hs1
  go_wp2_with fail
  refine (HS1.out.wrUint 0 rfl (by constructor <;> omega) (by simp)).mono ?_
  rintro e w2 ⟨rfl, D1, hs2⟩
  have HS2 : Hid (SepW w w2 [obWr (.pointer (some ⟨b0, 0, none⟩)) D1 (putU hs.length)]) := Lib.hid hs2
  clear hs2 HS1 hwl
  go_wp2_with fail
  go_loopw [14] (fun i wr => ∃ (k : Nat) (D' : Nat → Prop), k ≤ hs.length ∧ i = .int .i64 k ∧ SepW w wr [obWr (.pointer (some ⟨b0, 0, none⟩)) D' (putU hs.length ++ putVs (hs.take k))]) (fun i _ => hs.length - (intOf i).toNat)
  case atStart => exact ⟨0, D1, by omega, rfl, by simpa [putVs_nil] using HS2.out⟩
  case round =>
    clear HS2
    obtain ⟨k, D', hk, rfl, hsep⟩ := hrel
    have HSk := Lib.hid hsep
    clear hsep
    have hvl : (putVs (hs.take k)).length ≤ 200000000 := by
      have := putVs_len (l := hs.take k) (M := 100000) (fun s hs' => HM.out s (List.mem_of_mem_take hs'))
      have h3 := List.length_take_le k hs
      have h4 : (hs.take k).length * (27 + 100000) ≤ 1000 * (27 + 100000) := Nat.mul_le_mul_right _ (by omega)
      omega
    have hacl : (putU (hs.length : Int) ++ putVs (hs.take k)).length ≤ 200000009 := by rw [List.length_append, HP.out]; omega
    by_cases hlt : k < hs.length
    · have hki : (k : Int) < (hs.length : Int) := by omega
      obtain ⟨s, hsk⟩ : ∃ s, hs[k]? = some s := ⟨_, List.getElem?_eq_getElem hlt⟩
      obtain ⟨a, sv, rfl, c0, c1, c2, hsl⟩ := HX.out k s hsk
      obtain ⟨so, sc, rfl, g1, g2⟩ := hsl.form
      simp only [List.length_map] at c2 hsl g1 g2
      obtain ⟨us, ub⟩ := HU.out s (List.mem_of_getElem? hsk)
      have hvm := HM.out s (List.mem_of_getElem? hsk)
      have e0 := (HSk.out.below.cell (World.block_lt_of_cell? _ _ c0)).trans c0
      have e1 := (HSk.out.below.cell (World.block_lt_of_cell? _ _ c1)).trans c1
      have e2 := (HSk.out.below.cell (World.block_lt_of_cell? _ _ c2)).trans c2
      have HT := Lib.hid (putVs_take hsk)
      have HSl := Lib.hid hsl
      have HUs := Lib.hid us
      have HUb := Lib.hid ub
      have HS3 := Lib.hid (HSk.out.newBlk #[.int .u64 s.slot, .int .u64 s.ballot, .slice so s.val.length sc] 39)
      have HAc : Hid (putU (hs.length : Int) ++ putVs (hs.take (k + 1)) = putU (hs.length : Int) ++ putVs (hs.take k) ++ putU s.slot ++ putU s.ballot ++ putB s.val) := Lib.hid (by rw [HT.out]; simp [List.append_assoc])
      generalize putU (hs.length : Int) ++ putVs (hs.take k) = acc at *
      clear hsk c0 c1 c2 hsl us ub HSk
      obtain ⟨x0, _⟩ := HS3.out.blk 0 rfl 0 _ rfl
      obtain ⟨x1, _⟩ := HS3.out.blk 0 rfl 1 _ rfl
      obtain ⟨x2, _⟩ := HS3.out.blk 0 rfl 2 _ rfl
      go_wp2_with fail
      refine (HS3.out.wrUint 1 rfl HUs.out (by omega)).mono ?_
      rintro e w4 ⟨rfl, D4, hs4⟩
      have HS4 : Hid (SepW w w4 [obBlk wr.heap.size (.cells #[.int .u64 s.slot, .int .u64 s.ballot, .slice so s.val.length sc] 39), obWr (.pointer (some ⟨b0, 0, none⟩)) D4 (acc ++ putU s.slot)]) := Lib.hid hs4
      clear hs4 HS3 x0 x1 x2
      obtain ⟨x1, _⟩ := HS4.out.blk 0 rfl 1 _ rfl
      obtain ⟨x2, _⟩ := HS4.out.blk 0 rfl 2 _ rfl
      have q1 : (acc ++ putU s.slot).length ≤ 200000018 := by rw [List.length_append, putU_len]; have := sz_le s.slot; omega
      go_wp2_with fail
      refine (HS4.out.wrUint 1 rfl HUb.out (by omega)).mono ?_
      rintro e w5 ⟨rfl, D5, hs5⟩
      have HS5 : Hid (SepW w w5 [obBlk wr.heap.size (.cells #[.int .u64 s.slot, .int .u64 s.ballot, .slice so s.val.length sc] 39), obWr (.pointer (some ⟨b0, 0, none⟩)) D5 (acc ++ putU s.slot ++ putU s.ballot)]) := Lib.hid hs5
      clear hs5 HS4 x1 x2
      obtain ⟨x2, _⟩ := HS5.out.blk 0 rfl 2 _ rfl
      have q2 : (acc ++ putU s.slot ++ putU s.ballot).length ≤ 200000027 := by rw [List.length_append, putU_len]; have := sz_le s.ballot; omega
      go_wp2_with fail
      refine (HS5.out.wrBytes 1 rfl (HSl.out.below HS5.out.below (Nat.le_refl _)) (HS5.out.offArg 1 rfl HSl.out) (by omega)).mono ?_
      rintro e w6 ⟨rfl, D6, hs6⟩
      have HS6 : Hid (SepW w w6 [obWr (.pointer (some ⟨b0, 0, none⟩)) D6 (putU (hs.length : Int) ++ putVs (hs.take (k + 1)))]) := Lib.hid (by rw [HAc.out]; exact hs6.sub (List.sublist_cons_self _ _))
      clear hs6 HS5 x2
      go_wp2_with fail
      go_roundw
      case rel => exact ⟨k + 1, D6, by omega, by go_num, HS6.out⟩
      case measure => simp [intOf]; omega
    · have hkl : k = hs.length := by omega
      have hkd : decide ((k : Int) < (hs.length : Int)) = false := decide_eq_false (by omega)
      have HS9 : Hid (SepW w wr [obWr (.pointer (some ⟨b0, 0, none⟩)) D' (putV hs)]) := Lib.hid (by have := HSk.out; rw [hkl, List.take_length] at this; exact this)
      have hvl9 : (putV hs).length ≤ 200000009 := by rw [hkl, List.take_length] at hacl; exact hacl
      clear hkl HSk hacl hvl
      go_wp2_with fail
      refine (HS9.out.wrOut 0 rfl (by omega)).mono ?_
      rintro e w4 ⟨v', rfl, ho, hb⟩
      obtain ⟨ko, kc, rfl, _, _⟩ := own_form ho
      have HO := Lib.hid ho
      have HB := Lib.hid hb
      clear ho hb
      go_wp2_with fail
      go_ret
      exact ⟨ko, kc, rfl, HO.out.weaken HS9.out.below.size, HS9.out.below.trans (HB.out.mono HS9.out.below.size)⟩
end Go.Proofs.Ytjdjfhioobhcjaa
