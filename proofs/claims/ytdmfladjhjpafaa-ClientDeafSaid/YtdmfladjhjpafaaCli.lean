/-
  Package client: are numbers nodes?
-/
import Derived.Test.YtdmfladjhjpafaaBas
import Derived.Test.YtdmfladjhjpafaaClo
namespace Go.Proofs.Ytdmfladjhjpafaa
open Go.ChangeShapes Go.WideShapes Go.ChangeAt Go.RowKit Go.Maps
set_option maxRecDepth 100000

abbrev i64s (xs : List Int) : List Value := xs.map (Value.int .i64)
/-- A number that is no node's. -/
def badN (k : Int) : Bool := decide (k < 0) || decide (32 ≤ k)
theorem cnode_any (k : Int) (w : World) : Calls Try.prog 25 #[.int .i64 k] w fun e w' => e = .returned (.bool (badN k)) ∧ w = w' := by
  unfold badN
  by_cases h : k < 0
  · have hd : decide (k < 0) = true := decide_eq_true h
    go_enter Try.func25, Try.ntmps25
    go_wp2
    go_ret
    exact ⟨by simp [h], rfl⟩
  · have hd : decide (k < 0) = false := decide_eq_false h
    go_enter Try.func25, Try.ntmps25
    go_wp2
    go_ret
    exact ⟨by simp, rfl⟩
/-- Where the first of them stands; below 0: there is none. -/
def RetIx (b : Bool) (w : World) (e : Ending) (w' : World) : Prop := ∃ i : Int, e = .returned (.int .i64 i) ∧ (decide (0 ≤ i) = b) ∧ w = w'
set_option maxHeartbeats 1000000 in
theorem cindex_any {v : Value} {xs : List Int} {w : World} (h : SlR w v (i64s xs)) : Calls Try.prog 37 #[v, .func (.func 25) #[] #[]] w (RetIx (xs.any badN) w) := by
  obtain ⟨ao, c, rfl, hc, hm, hx⟩ := h.ints
  have HX := Lib.hid hx
  clear h hx
  go_enter Try.func37, Try.ntmps37
  go_wp2_with fail
  go_loop [8, 5] (fun vi _ => ∃ k : Nat, k ≤ xs.length ∧ vi = .int .i64 k ∧ (xs.take k).any badN = false) (fun vi _ => xs.length - (intOf vi).toNat)
  case atStart => exact ⟨0, by omega, rfl, rfl⟩
  case round =>
    obtain ⟨k, hk, rfl, hno⟩ := hrel
    have HNo := Lib.hid hno
    clear hno
    by_cases hlt : k < xs.length
    · have hki : (k : Int) < (xs.length : Int) := by omega
      obtain ⟨a, rfl, hcell⟩ := HX.out k hlt
      have hts : xs.take (k + 1) = xs.take k ++ [xs[k]] := List.take_succ_eq_append_getElem hlt
      have HTs := Lib.hid hts
      have hmem := List.getElem_mem hlt
      have HMm := Lib.hid hmem
      clear hts hmem
      generalize xs[k] = x at *
      go_wp2_with fail
      refine (cnode_any x _).mono ?_
      rintro e w' ⟨rfl, rfl⟩
      cases hb : badN x
      · have HN2 : Hid ((xs.take (k + 1)).any badN = false) := Lib.hid (by rw [HTs.out, List.any_append, HNo.out]; simp [hb])
        clear hb
        go_wp2_with fail
        go_round
        case rel => exact ⟨k + 1, by omega, by go_num, HN2.out⟩
        case measure => simp [intOf]; omega
      · have HN2 : Hid (xs.any badN = true) := Lib.hid (List.any_eq_true.2 ⟨x, HMm.out, hb⟩)
        clear hb
        go_wp2_with fail
        go_ret
        exact ⟨(k : Int), rfl, by rw [HN2.out]; simp, rfl⟩
    · have hkn : k = xs.length := by omega
      subst hkn
      have hkd : decide ((xs.length : Int) < (xs.length : Int)) = false := decide_eq_false (by omega)
      rw [List.take_length] at HNo
      clear hlt hk
      go_wp2_with fail
      go_ret
      exact ⟨-1, rfl, by rw [HNo.out]; decide, rfl⟩
theorem ccontains_any {v : Value} {xs : List Int} {w : World} (h : SlR w v (i64s xs)) : Calls Try.prog 24 #[v, .func (.func 25) #[] #[]] w fun e w' => e = .returned (.bool (xs.any badN)) ∧ w = w' := by
  obtain ⟨ao, c, rfl, _⟩ := h.form
  simp only [List.length_map] at *
  have HC := Lib.hid (cindex_any h)
  clear h
  go_enter Try.func24, Try.ntmps24
  go_wp2_with fail
  refine HC.out.mono ?_
  rintro e w' ⟨i, rfl, hi, rfl⟩
  go_wp2_with fail
  go_ret
  exact ⟨rfl, rfl⟩
def nodesB (xs : List Int) (many : Int) : Bool := decide (1 ≤ xs.length) && decide ((xs.length : Int) ≤ many) && !xs.any badN
theorem cnodes_any {v : Value} {xs : List Int} {w : World} (h : SlR w v (i64s xs)) (many : Int) : Calls Try.prog 12 #[v, .int .i64 many] w fun e w' => e = .returned (.bool (nodesB xs many)) ∧ w = w' := by
  obtain ⟨ao, c, rfl, hc1, hc2⟩ := h.form
  simp only [List.length_map] at *
  have HC := Lib.hid (ccontains_any h)
  clear h
  unfold nodesB
  by_cases h1 : 1 ≤ xs.length
  · have h1i : (1 : Int) ≤ (xs.length : Int) := by omega
    by_cases h2 : (xs.length : Int) ≤ many
    · go_enter Try.func12, Try.ntmps12
      go_wp2_with fail
      refine HC.out.mono ?_
      rintro e w' ⟨rfl, rfl⟩
      go_wp2_with fail
      go_ret
      exact ⟨by simp [h1, h2], rfl⟩
    · have h2d : decide ((xs.length : Int) ≤ many) = false := decide_eq_false h2
      go_enter Try.func12, Try.ntmps12
      go_wp2_with fail
      go_ret
      exact ⟨by simp, rfl⟩
  · have h1d : decide ((1 : Int) ≤ (xs.length : Int)) = false := decide_eq_false (by omega)
    go_enter Try.func12, Try.ntmps12
    go_wp2_with fail
    go_ret
    exact ⟨by simp [h1], rfl⟩
end Go.Proofs.Ytdmfladjhjpafaa
