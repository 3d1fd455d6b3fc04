/-
  Package paxos: one message for some nodes.
-/
import Derived.Test.YtgmdedkingampaaGreatPax
import Derived.Test.YtgmdedkingampaaGreatBlr
set_option linter.unusedVariables false
set_option linter.unusedSimpArgs false
namespace Go.Proofs.YtgmdedkingampaaGreat
open Go.ChangeShapes Go.WideShapes Go.ChangeAt Go.RowKit Go.Maps
set_option maxRecDepth 1000000

theorem Tryz.outInfo : (Tryz.prog.info? 85).map (fun i => (i.zero, i.size, i.bytes)) = some (some (.agg #[.int .i64 0, .int .i64 0, .int .u64 0, .int .u64 0, .int .i64 0, .int .i64 0, .int .u64 0, .int .u64 0, .int .u64 0, .int .i64 0, .slice none 0 0, .slice none 0 0]), 12, 128) := by kernel_rfl
/-- A message's cells: kind, ballot, slot, the rest (7 of them), its bytes. -/
abbrev mgC (k b s : Int) (bv : Value) : Array Value := #[.int .i64 k, .int .u64 b, .int .u64 s, .int .i64 0, .int .i64 0, .int .u64 0, .int .u64 0, .int .u64 0, .int .i64 0, .slice none 0 0, bv]
abbrev otC (t k b s : Int) (bv : Value) : Array Value := #[.int .i64 t, .int .i64 k, .int .u64 b, .int .u64 s, .int .i64 0, .int .i64 0, .int .u64 0, .int .u64 0, .int .u64 0, .int .i64 0, .slice none 0 0, bv]
def allC (ts : List Int) (k b s : Int) (bv : Value) : List Value := ts.flatMap (fun t => (otC t k b s bv).toList)
theorem allC_take {ts : List Int} {k : Nat} {t : Int} (h : ts[k]? = some t) (kd b s : Int) (bv : Value) : allC (ts.take (k + 1)) kd b s bv = allC (ts.take k) kd b s bv ++ (otC t kd b s bv).toList := by
  obtain ⟨h1, h2⟩ := List.getElem?_eq_some_iff.1 h
  unfold allC
  rw [List.take_succ_eq_append_getElem h1, h2, List.flatMap_append]
  simp
set_option maxHeartbeats 4000000 in
theorem all_any {w : World} {tv : Value} {ts : List Int} (h : SlR w tv (i64s ts)) (hl : ts.length ≤ 100000) (kd b s : Int) (bo : Option Addr) (bn bc : Nat) :
    Calls Tryz.prog 36 #[.agg (mgC kd b s (.slice bo bn bc)), tv] w fun e w' => ∃ ao c, e = .returned (.slice ao ts.length c) ∧ w'.ownsRow w.heap.size 85 12 (.slice ao ts.length c) ts.length (allC ts kd b s (.slice bo bn bc)) ∧ Below w.heap.size w w' := by
  obtain ⟨i0, hi, hz0, hz1, hz2⟩ := info_parts Tryz.outInfo
  obtain ⟨ao, ac, rfl, hac, hac2⟩ := id h.form
  simp only [List.length_map] at h hac ⊢
  have hxl : ts.length ≤ 9223372036854775807 := by omega
  obtain ⟨W1, hW1⟩ : ∃ x, x = w.alloc (.cells (mgC kd b s (.slice bo bn bc)) 42) := ⟨_, rfl⟩
  have e1 : W1.heap[w.heap.size]? = some (.cells (mgC kd b s (.slice bo bn bc)) 42 (0, 0)) := by rw [hW1]; exact heap_alloc_new w _
  have hb1 : Below w.heap.size w W1 := by rw [hW1]; exact below_lit w _
  have hz1' : W1.heap.size = w.heap.size + 1 := by rw [hW1]; simp
  have H := Lib.hid (h.below hb1 (Nat.le_refl _))
  have HE1 := Lib.hid e1
  have HB1 := Lib.hid hb1
  have HZ1 := Lib.hid hz1'
  have HW1 := Lib.hid hW1
  clear h e1 hb1 hz1' hW1
  go_enter Tryz.func36, Tryz.ntmps36
  go_upto_region 3 with fail
  rw [← HW1.out]
  have hm : Hid (ts.length ≤ ac ∧ ac ≤ 9223372036854775807) := Lib.hid ⟨hac, hac2⟩
  clear HW1
  go_loopw [5, 10] (fun ov i wr => ∃ (k : Nat) (go : Option Addr) (c : Nat), k ≤ ts.length ∧ i = .int .i64 k ∧ ov = .slice go k c ∧ Hid (wr.ownsRow (w.heap.size + 1) 85 12 (.slice go k c) k (allC (ts.take k) kd b s (.slice bo bn bc))) ∧ Hid (Below (w.heap.size + 1) W1 wr)) (fun _ i _ => ts.length - (intOf i).toNat)
  case atStart => exact ⟨0, none, 0, by omega, rfl, rfl, Lib.hid (World.ownsRow_nil _ _ _ _), Lib.hid (Below.refl _ _)⟩
  case round =>
    obtain ⟨k, go, c, hk, rfl, rfl, hown, hbl⟩ := hrel
    by_cases hlt : k < ts.length
    · have hlt2 : (k : Int) < (ts.length : Int) := by omega
      obtain ⟨t, ht⟩ : ∃ t, ts[k]? = some t := ⟨_, List.getElem?_eq_getElem hlt⟩
      have hbl' : Below W1.heap.size W1 wr := by rw [HZ1.out]; exact hbl.out
      obtain ⟨a, hau, hcm⟩ := (H.out.below hbl' (Nat.le_refl _)).at' (m := k) (u := .int .i64 t) (by simp [ht])
      subst hau
      have hm0 : wr.heap[w.heap.size]? = some (.cells (mgC kd b s (.slice bo bn bc)) 42 (0, 0)) := (hbl.out.block _ (by omega)).trans HE1.out
      have HT := Lib.hid (allC_take ht kd b s (.slice bo bn bc))
      have HM0 := Lib.hid hm0
      have hszw : w.heap.size + 1 ≤ wr.heap.size := HZ1.out ▸ hbl.out.size
      have HU : Hid (∀ u ∈ (otC t kd b s (.slice bo bn bc)).toList, u.oneCell' = true) := Lib.hid (by intro u hu; simp at hu; rcases hu with rfl | rfl | rfl | rfl | rfl | rfl | rfl | rfl | rfl | rfl | rfl | rfl <;> rfl)
      have hk9 : k ≤ 1000000000 := by omega
      clear ht hbl' hm0
      go_wp2_with (first
        | (refine wpList_loadRow rfl 42 (.tmp 2) rfl w.heap.size _ 42 HM0.out rfl _ Tryz.underlying42 rfl (by kernel_rfl) ?_)
        | (at_builtin; (refine wpList_appL rfl (.tmp 14) (.tmp 18) 28 rfl (w.heap.size + 1) 85 i0 _ 12 128 Tryz.underlying28 hi hz0 hz1 hz2 rfl (by decide) (by decide) rfl rfl (by simp) rfl hown.out HU.out hk9 hszw ?_)
           intro g7 cap7 w7 hown7 hg7 hor7
           have HOwn7 := Lib.hid hown7
           have HG7 := Lib.hid hg7
           have HOr7 := Lib.hid hor7
           clear hown7 hg7 hor7)
        | fail)
      have hb7 : Below (w.heap.size + 1) W1 w7 := (hbl.out.alloc hszw _).grown HG7.out (by simp; omega) (fun g hg => (hown.out.lt g hg).1)
      have HB7 := Lib.hid hb7
      clear hb7
      go_roundw
      case rel => exact ⟨k + 1, _, _, by omega, by go_num, rfl, Lib.hid (by rw [HT.out]; exact HOwn7.out), HB7⟩
      case measure => simp [intOf]; omega
    · have : k = ts.length := by omega
      subst this
      have hkd : decide ((ts.length : Int) < (ts.length : Int)) = false := decide_eq_false (by omega)
      rw [List.take_length] at hown
      clear hlt hk
      go_wp2_with fail
      go_ret
      exact ⟨go, c, rfl, hown.out.weaken (by omega), HB1.out.trans (hbl.out.mono (by omega))⟩
end Go.Proofs.YtgmdedkingampaaGreat
