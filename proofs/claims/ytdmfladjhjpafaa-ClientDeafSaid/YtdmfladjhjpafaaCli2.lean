/-
  Package client: rows of numbers cloned; are all shards' rows nodes?
-/
import Derived.Test.YtdmfladjhjpafaaCli
namespace Go.Proofs.Ytdmfladjhjpafaa
open Go.ChangeShapes Go.WideShapes Go.ChangeAt Go.RowKit Go.Maps
set_option maxRecDepth 100000

theorem Try.intInfo : (Try.prog.info? 3).map (fun i => (i.zero, i.size, i.bytes)) = some (some (.int .i64 0), 1, 8) := by kernel_rfl
set_option maxHeartbeats 400000 in
theorem cloneI_any {v : Value} {xs : List Int} {w : World} (h : SlR w v (i64s xs)) (hl : xs.length ≤ 1000000000) :
    Calls Try.prog 15 #[v] w fun e w' => ∃ v', e = .returned v' ∧ w'.ownsRow w.heap.size 3 1 v' xs.length (i64s xs) ∧ Below w.heap.size w w' := by
  obtain ⟨ao, c, rfl, hc, hm, hx⟩ := h
  simp only [List.length_map] at *
  unfold maxLen at hm
  cases ao with
  | none =>
    have : xs = [] := by
      cases xs with
      | nil => rfl
      | cons x r => obtain ⟨a, ha, _⟩ := hx 0 (.int .i64 x) (by simp); cases ha
    subst this
    have hnil := fun (w : World) (n c : Nat) => Lib.run_eql_slice_nil (P := Try.prog) w 29 3 none n c 0 0 Try.underlying29
    go_enter Try.func15, Try.ntmps15
    go_wp2
    go_ret
    exact ⟨_, rfl, World.ownsRow_nil _ _ _ _, Below.refl _ _⟩
  | some a =>
    have hnil := fun (w : World) (n c : Nat) => Lib.run_eql_slice_nil (P := Try.prog) w 29 3 (some a) n c 0 0 Try.underlying29
    obtain ⟨i0, hi, hz0, hz1, hz2⟩ := info_parts Try.intInfo
    have hcell : ∀ j u, (i64s xs)[j]? = some u → (w.alloc (.cells #[] 3)).cell? (a.add j) = some u := by
      intro j u hj
      obtain ⟨a', ha, hc⟩ := hx j u hj
      cases ha
      exact cell_alloc _ hc
    go_enter Try.func15, Try.ntmps15
    go_wp2_with (at_builtin; refine wpList_append_own _ rfl (.tmp 5) (.tmp 6) 29 rfl w.heap.size 3 i0 (.int .i64 0) 1 8 Try.underlying29 hi hz0 hz1 hz2 rfl (by decide) _ 0 [] rfl (World.ownsRow_made w #[] 0 (Nat.le_refl _) (by decide) rfl) a xs.length c (i64s xs) rfl (by simp) hcell (by intro u hu; simp at hu; obtain ⟨n, _, rfl⟩ := hu; rfl) (by unfold maxLen; omega) (by omega) (by simp) ?_)
    intro v' w' hown hg _
    have hb : Below w.heap.size w w' := ((Below.refl _ _).alloc (Nat.le_refl _) _).grown hg (by simp) (by intro k hk; simp [Value.ownBlock] at hk; omega)
    go_wp2
    go_ret
    exact ⟨v', rfl, by simpa using hown, hb⟩
/-- A row that is no shard's. -/
def badS (l : List Int) : Bool := !nodesB l 4
theorem cshard_any {v : Value} {xs : List Int} {w : World} (h : SlR w v (i64s xs)) : Calls Try.prog 14 #[v] w fun e w' => e = .returned (.bool (badS xs)) ∧ w = w' := by
  obtain ⟨ao, c, rfl, _⟩ := h.form
  simp only [List.length_map] at *
  have HC := Lib.hid (cnodes_any h 4)
  clear h
  unfold badS
  go_enter Try.func14, Try.ntmps14
  go_wp2_with fail
  refine HC.out.mono ?_
  rintro e w' ⟨rfl, rfl⟩
  go_wp2_with fail
  go_ret
  exact ⟨rfl, rfl⟩
set_option maxHeartbeats 1000000 in
theorem cindexS_any {v : Value} {ys : List (List Int)} {w : World} (h : RowsK w .i64 v ys) : Calls Try.prog 26 #[v, .func (.func 14) #[] #[]] w (RetIx (ys.any badS) w) := by
  obtain ⟨ao, c, rfl, hc, hm, hx⟩ := h.row
  have HX := Lib.hid hx
  clear h hx
  go_enter Try.func26, Try.ntmps26
  go_wp2_with fail
  go_loop [8, 5] (fun vi _ => ∃ k : Nat, k ≤ ys.length ∧ vi = .int .i64 k ∧ (ys.take k).any badS = false) (fun vi _ => ys.length - (intOf vi).toNat)
  case atStart => exact ⟨0, by omega, rfl, rfl⟩
  case round =>
    obtain ⟨k, hk, rfl, hno⟩ := hrel
    have HNo := Lib.hid hno
    clear hno
    by_cases hlt : k < ys.length
    · have hki : (k : Int) < (ys.length : Int) := by omega
      obtain ⟨a, u, rfl, hcell, hsl⟩ := HX.out k hlt
      have hts : ys.take (k + 1) = ys.take k ++ [ys[k]] := List.take_succ_eq_append_getElem hlt
      have HTs := Lib.hid hts
      have hmem := List.getElem_mem hlt
      have HMm := Lib.hid hmem
      clear hts hmem
      generalize ys[k] = x at *
      have HS := Lib.hid (cshard_any hsl)
      clear hsl
      go_wp2_with fail
      refine HS.out.mono ?_
      rintro e w' ⟨rfl, rfl⟩
      cases hb : badS x
      · have HN2 : Hid ((ys.take (k + 1)).any badS = false) := Lib.hid (by rw [HTs.out, List.any_append, HNo.out]; simp [hb])
        clear hb
        go_wp2_with fail
        go_round
        case rel => exact ⟨k + 1, by omega, by go_num, HN2.out⟩
        case measure => simp [intOf]; omega
      · have HN2 : Hid (ys.any badS = true) := Lib.hid (List.any_eq_true.2 ⟨x, HMm.out, hb⟩)
        clear hb
        go_wp2_with fail
        go_ret
        exact ⟨(k : Int), rfl, by rw [HN2.out]; simp, rfl⟩
    · have hkn : k = ys.length := by omega
      subst hkn
      have hkd : decide ((ys.length : Int) < (ys.length : Int)) = false := decide_eq_false (by omega)
      rw [List.take_length] at HNo
      clear hlt hk
      go_wp2_with fail
      go_ret
      exact ⟨-1, rfl, by rw [HNo.out]; decide, rfl⟩
theorem ccontainsS_any {v : Value} {ys : List (List Int)} {w : World} (h : RowsK w .i64 v ys) : Calls Try.prog 13 #[v, .func (.func 14) #[] #[]] w fun e w' => e = .returned (.bool (ys.any badS)) ∧ w = w' := by
  have h0 := h
  obtain ⟨ao, c, rfl, _⟩ := h.row
  have HC := Lib.hid (cindexS_any h0)
  clear h h0
  go_enter Try.func13, Try.ntmps13
  go_wp2_with fail
  refine HC.out.mono ?_
  rintro e w' ⟨i, rfl, hi, rfl⟩
  go_wp2_with fail
  go_ret
  exact ⟨rfl, rfl⟩
end Go.Proofs.Ytdmfladjhjpafaa
