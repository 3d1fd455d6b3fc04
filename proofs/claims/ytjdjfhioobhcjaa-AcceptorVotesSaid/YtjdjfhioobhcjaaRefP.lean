/-
  The document's votes as bytes: Put.
-/
import Derived.Test.YtjdjfhioobhcjaaRefN
import Derived.Test.YtjdjfhioobhcjaaGetW
import Derived.Test.YtjdjfhioobhcjaaAccV
namespace Go.Proofs.Ytjdjfhioobhcjaa
open Go.ChangeShapes Go.WideShapes Go.ChangeAt Go.RowKit Go.Maps
set_option maxRecDepth 100000

theorem size_app (a b : ByteArray) : (a ++ b).size = a.size + b.size := by simp
set_option maxHeartbeats 2000000 in
theorem rput_any {w : World} {v : Value} {hs : List Vt} (h : RfL w v hs) (hu : ∀ s ∈ hs, U1 s.slot ∧ U1 s.ballot) (hl : hs.length ≤ 1000) (hm : ∀ s ∈ hs, s.val.length ≤ 100000) :
    Calls Try.prog 50 #[v] w fun e w' => e = .returned (.string (strB (putV hs))) ∧ Below w.heap.size w w' := by
  obtain ⟨ao, c, rfl, h1, h2, hx⟩ := h
  have HX := Lib.hid hx
  have HU := Lib.hid hu
  have HM := Lib.hid hm
  have hwl : IntKind.u64.wrap (hs.length : Int) = (hs.length : Int) := IntWalk.u64_in _ (by omega)
  have hpl := putU_len (hs.length : Int)
  have hps := sz_le (hs.length : Int)
  have HP := Lib.hid hpl
  have HUl := fun w => Lib.hid (ruintS_any (x := (hs.length : Int)) (by constructor <;> omega) w)
  clear hx hu hm hpl
  go_enter Try.func50, Try.ntmps50
  go_wp2_with fail
  refine (HUl w).out.mono ?_
  rintro e w1 ⟨rfl, hb1⟩
  have HB1 := Lib.hid hb1
  clear hb1 hwl
  go_wp2_with fail
  go_loopw [4, 3] (fun i sv wr => ∃ (k : Nat), k ≤ hs.length ∧ i = .int .i64 k ∧ sv = .string (strB (putU hs.length ++ putVs (hs.take k))) ∧ Below w.heap.size w wr) (fun i _ _ => hs.length - (intOf i).toNat)
  case atStart => exact ⟨0, by omega, rfl, by simp [putVs_nil], HB1.out⟩
  case round =>
    clear HB1
    obtain ⟨k, hk, rfl, rfl, hbw⟩ := hrel
    have HBk := Lib.hid hbw
    clear hbw
    by_cases hlt : k < hs.length
    · have hki : (k : Int) < (hs.length : Int) := by omega
      obtain ⟨s, hsk⟩ : ∃ s, hs[k]? = some s := ⟨_, List.getElem?_eq_getElem hlt⟩
      obtain ⟨a, rfl, c0, c1, c2⟩ := HX.out k s hsk
      obtain ⟨us, ub⟩ := HU.out s (List.mem_of_getElem? hsk)
      have hvm := HM.out s (List.mem_of_getElem? hsk)
      have HC : Hid (∀ w' : World, Below w.heap.size w w' → w'.cell? (a.add (k * 3)) = some (.int .u64 s.slot) ∧ w'.cell? ⟨(a.add (k * 3)).block, (a.add (k * 3)).off + 1, none⟩ = some (.int .u64 s.ballot) ∧ w'.cell? ⟨(a.add (k * 3)).block, (a.add (k * 3)).off + 2, none⟩ = some (.string (strB s.val))) := Lib.hid fun w' hb =>
        ⟨(hb.cell (World.block_lt_of_cell? _ _ c0)).trans c0, (hb.cell (World.block_lt_of_cell? _ _ c1)).trans c1, (hb.cell (World.block_lt_of_cell? _ _ c2)).trans c2⟩
      have HT := Lib.hid (putVs_take hsk)
      have HUs := fun w => Lib.hid (ruintS_any us w)
      have HUb := fun w => Lib.hid (ruintS_any ub w)
      have HBv := fun w => Lib.hid (rbytesS_any (xs := s.val) (by omega) w)
      have hvl : (putVs (hs.take k)).length ≤ 200000000 := by
        have := putVs_len (l := hs.take k) (M := 100000) (fun s hs' => HM.out s (List.mem_of_mem_take hs'))
        have h3 := List.length_take_le k hs
        have h4 : (hs.take k).length * (27 + 100000) ≤ 1000 * (27 + 100000) := Nat.mul_le_mul_right _ (by omega)
        omega
      have z0 : (strB (putU (hs.length : Int) ++ putVs (hs.take k))).size ≤ 300000000 := by rw [strB_size, List.length_append, HP.out]; omega
      have z1 : (strB (putU s.slot)).size ≤ 9 := by rw [strB_size, putU_len]; have := sz_le s.slot; omega
      have z2 : (strB (putU s.ballot)).size ≤ 9 := by rw [strB_size, putU_len]; have := sz_le s.ballot; omega
      have z3 : (strB (putB s.val)).size ≤ 100009 := by rw [strB_size, putB, List.length_append, putU_len]; have := sz_le (s.val.length : Int); omega
      have hfin : strB (putU (hs.length : Int) ++ putVs (hs.take k)) ++ (strB (putU s.slot) ++ strB (putU s.ballot) ++ strB (putB s.val)) = strB (putU (hs.length : Int) ++ putVs (hs.take (k + 1))) := by
        rw [strB_app, strB_app, strB_app, HT.out]; simp [List.append_assoc]
      have HFin := Lib.hid hfin
      obtain ⟨d0, d1, d2⟩ := HC.out wr HBk.out
      clear hsk c0 c1 c2 us ub hvl hfin
      generalize strB (putU (hs.length : Int) ++ putVs (hs.take k)) = s0 at *
      generalize strB (putU s.slot) = s1 at *
      generalize strB (putU s.ballot) = s2 at *
      generalize strB (putB s.val) = s3 at *
      have q1 : ¬ (9223372036854775807 < s1.size + s2.size) := by omega
      have q2 : ¬ (9223372036854775807 < (s1 ++ s2).size + s3.size) := by rw [size_app]; omega
      have q3 : ¬ (9223372036854775807 < s0.size + (s1 ++ s2 ++ s3).size) := by rw [size_app, size_app]; omega
      have q4 : ¬ (9223372036854775807 < s1.size + s2.size + s3.size) := by omega
      have q5 : ¬ (9223372036854775807 < s0.size + (s1.size + s2.size + s3.size)) := by omega
      have HBd := Lib.hid (HBk.out.drew)
      go_wp2_with fail
      go_region_held3 (fun w' => w'.cell? (a.add (k * 3)) = some (.int .u64 s.slot) ∧ w'.cell? ⟨(a.add (k * 3)).block, (a.add (k * 3)).off + 1, none⟩ = some (.int .u64 s.ballot) ∧ w'.cell? ⟨(a.add (k * 3)).block, (a.add (k * 3)).off + 2, none⟩ = some (.string (strB s.val))) (first | go_keep)
        (first
          | (go_at_call 76; (with_reducible refine (HUs _).out.mono ?_); rintro e w4 ⟨rfl, hb4⟩; have HB4 := Lib.hid (HBd.out.trans (hb4.mono HBd.out.size)); obtain ⟨d0, d1, d2⟩ := HC.out _ HB4.out; clear hb4)
          | (go_at_call 76; (with_reducible refine (HUb _).out.mono ?_); rintro e w5 ⟨rfl, hb5⟩; have HB5 := Lib.hid (HB4.out.trans (hb5.mono HB4.out.size)); obtain ⟨d0, d1, d2⟩ := HC.out _ HB5.out; clear hb5)
          | (go_at_call 77; (with_reducible refine (HBv _).out.mono ?_); rintro e w6 ⟨rfl, hb6⟩; have HB6 := Lib.hid (HB5.out.trans (hb6.mono HB5.out.size)); obtain ⟨d0, d1, d2⟩ := HC.out _ HB6.out; clear hb6))
      clear d0 d1 d2
      go_wp2_with fail
      go_roundw
      case rel => exact ⟨k + 1, by omega, by go_num, by rw [HFin.out], HB6.out⟩
      case measure => simp [intOf]; omega
    · have hkl : k = hs.length := by omega
      have hkd : decide ((k : Int) < (hs.length : Int)) = false := decide_eq_false (by omega)
      have hfin : strB (putU (hs.length : Int) ++ putVs (hs.take k)) = strB (putV hs) := by rw [hkl, List.take_length]; rfl
      have HFin := Lib.hid hfin
      clear hkl hfin
      go_wp2_with fail
      go_ret
      rw [HFin.out]
      exact ⟨rfl, HBk.out⟩
end Go.Proofs.Ytjdjfhioobhcjaa
