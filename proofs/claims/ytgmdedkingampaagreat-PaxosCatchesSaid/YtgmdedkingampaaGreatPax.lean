/-
  Where a number stands in a row of numbers: slices.Index, slices.Contains.
-/
import Derived.Test.YtgmdedkingampaaGreatSum
import Derived.Test.YtgmdedkingampaaGreatProg
set_option linter.unusedVariables false
set_option linter.unusedSimpArgs false
namespace Go.Proofs.YtgmdedkingampaaGreat
open Go.ChangeShapes Go.WideShapes Go.ChangeAt Go.RowKit Go.Maps
set_option maxRecDepth 100000
set_option linter.unusedVariables false
set_option linter.unusedSimpArgs false

abbrev i64s (xs : List Int) : List Value := xs.map (Value.int .i64)
/-- The first place of a number; -1: it isn't there. -/
def idxI (xs : List Int) (x : Int) : Int := if x ∈ xs then ((xs.findIdx (· == x) : Nat) : Int) else -1
theorem idxI_at {xs : List Int} {x : Int} {k : Nat} (hk : xs[k]? = some x) (hb : ∀ j, j < k → xs[j]? ≠ some x) : idxI xs x = k := by
  have hm := List.mem_of_getElem? hk
  unfold idxI
  rw [if_pos hm]
  obtain ⟨hlt, he⟩ := List.getElem?_eq_some_iff.1 hk
  have h1 : xs.findIdx (· == x) = k := by
    refine (List.findIdx_eq hlt).2 ⟨by simp [he], fun j hj => ?_⟩
    have := hb j hj
    rw [List.getElem?_eq_getElem (by omega)] at this
    simpa using this
  rw [h1]
theorem idxI_none {xs : List Int} {x : Int} (h : x ∉ xs) : idxI xs x = -1 := by unfold idxI; rw [if_neg h]
theorem index_any {w : World} {v : Value} {xs : List Int} (h : SlR w v (i64s xs)) (x : Int) : Calls Tryz.prog 57 #[v, .int .i64 x] w fun e w' => e = .returned (.int .i64 (idxI xs x)) ∧ w = w' := by
  obtain ⟨ao, ac, rfl, hac, hac2⟩ := id h.form
  simp only [List.length_map] at h hac ⊢
  have hxl : xs.length ≤ 9223372036854775807 := by omega
  have H := Lib.hid h
  clear h
  go_enter Tryz.func57, Tryz.ntmps57
  go_wp2_with fail
  go_loopw [8] (fun i wr => ∃ k : Nat, k ≤ xs.length ∧ i = .int .i64 k ∧ (∀ j, j < k → xs[j]? ≠ some x) ∧ Hid (wr = w)) (fun i _ => xs.length - (intOf i).toNat)
  case atStart => exact ⟨0, by omega, rfl, by simp, by first | exact Lib.hid rfl | exact Lib.hid trivial⟩
  case round =>
    obtain ⟨k, hk, rfl, hb, hw⟩ := hrel
    have hw' := hw.out
    clear hw
    subst hw'
    have HBf := Lib.hid hb
    clear hb
    by_cases hlt : k < xs.length
    · have hlt2 : (k : Int) < (xs.length : Int) := by omega
      obtain ⟨c, hc⟩ : ∃ c, xs[k]? = some c := ⟨_, List.getElem?_eq_getElem hlt⟩
      obtain ⟨_, hau, hcm⟩ := H.out.at' (m := k) (u := .int .i64 c) (by simp [hc])
      subst hau
      have HC := Lib.hid hc
      clear hc
      by_cases hxc : x = c
      · subst hxc
        have hq : (x == x) = true := by simp
        go_wp2_with fail
        go_ret
        rw [idxI_at HC.out HBf.out]
        exact ⟨rfl, rfl⟩
      · have hq : (x == c) = false := beq_eq_false_iff_ne.2 hxc
        have HX := Lib.hid hxc
        clear hxc
        go_wp2_with fail
        go_roundw
        case rel => exact ⟨k + 1, by omega, by go_num, fun j hj => (by
          by_cases e : j = k
          · subst e; rw [HC.out]; intro e2; cases e2; exact HX.out rfl
          · exact HBf.out j (by omega)), by first | exact Lib.hid rfl | exact Lib.hid trivial⟩
        case measure => simp [intOf]; omega
    · have : k = xs.length := by omega
      subst this
      go_wp2_with fail
      go_ret
      rw [idxI_none (fun hm => by
        obtain ⟨j, hj, he⟩ := List.getElem_of_mem hm
        exact HBf.out j hj (by rw [List.getElem?_eq_getElem hj, he]))]
      exact ⟨rfl, rfl⟩
theorem contains_any {w : World} {v : Value} {xs : List Int} (h : SlR w v (i64s xs)) (x : Int) : Calls Tryz.prog 47 #[v, .int .i64 x] w fun e w' => e = .returned (.bool (decide (x ∈ xs))) ∧ w = w' := by
  obtain ⟨ao, ac, rfl, _, _⟩ := id h.form
  simp only [List.length_map] at h ⊢
  have HI := Lib.hid (index_any h x)
  have hge : decide ((0 : Int) ≤ idxI xs x) = decide (x ∈ xs) := by
    unfold idxI
    by_cases hm : x ∈ xs
    · rw [if_pos hm, decide_eq_true hm]; exact decide_eq_true (by omega)
    · rw [if_neg hm, decide_eq_false hm]; rfl
  clear h
  go_enter Tryz.func47, Tryz.ntmps47
  go_wp2_with fail
  refine HI.out.mono ?_
  rintro e w2 ⟨rfl, rfl⟩
  go_wp2_with fail
  go_ret
  exact ⟨rfl, rfl⟩
/-- May these be a node's peers? -/
def okAt (xs : List Int) (k : Nat) : Prop := ∀ p, xs[k]? = some p → 0 ≤ p ∧ p < 32 ∧ ∀ q, 0 < k → xs[k - 1]? = some q → q < p
def RightL (xs : List Int) : Prop := (∀ k, okAt xs k) ∧ 1 ≤ xs.length ∧ xs.length ≤ 7
open Classical in
theorem right_any' {w : World} {v : Value} {xs : List Int} (h : SlR w v (i64s xs)) : Calls Tryz.prog 58 #[v] w fun e w' => e = .returned (.bool (decide (RightL xs))) ∧ w = w' := by
  obtain ⟨ao, ac, rfl, hac, hac2⟩ := id h.form
  simp only [List.length_map] at h hac ⊢
  have hxl : xs.length ≤ 9223372036854775807 := by omega
  have H := Lib.hid h
  clear h
  go_enter Tryz.func58, Tryz.ntmps58
  go_wp2_with fail
  go_loopw [7] (fun i wr => ∃ k : Nat, k ≤ xs.length ∧ i = .int .i64 k ∧ (∀ j, j < k → okAt xs j) ∧ Hid (wr = w)) (fun i _ => xs.length - (intOf i).toNat)
  case atStart => exact ⟨0, by omega, rfl, by simp, by first | exact Lib.hid rfl | exact Lib.hid trivial⟩
  case round =>
    obtain ⟨k, hk, rfl, hb, hw⟩ := hrel
    have hw' := hw.out
    clear hw
    subst hw'
    have HBf := Lib.hid hb
    clear hb
    by_cases hlt : k < xs.length
    · have hlt2 : (k : Int) < (xs.length : Int) := by omega
      obtain ⟨c, hc⟩ : ∃ c, xs[k]? = some c := ⟨_, List.getElem?_eq_getElem hlt⟩
      obtain ⟨_, hau, hcm⟩ := H.out.at' (m := k) (u := .int .i64 c) (by simp [hc])
      subst hau
      have HC := Lib.hid hc
      clear hc
      rcases Nat.eq_zero_or_pos k with hk0 | hk0
      · subst hk0
        have hcm0 : wr.cell? ‹Addr› = some (.int .i64 c) := by simpa [Addr.add] using hcm
        rcases (by omega : c < 0 ∨ 32 ≤ c ∨ (0 ≤ c ∧ c < 32)) with hin | hin | hin
        · have d1 : decide (c < 0) = true := decide_eq_true hin
          have HBad : Hid (¬ okAt xs 0) := Lib.hid (fun hok => by have h1 := hok c HC.out; omega)
          clear hin
          go_wp2_with fail
          go_ret
          rw [decide_eq_false (fun hR : RightL xs => HBad.out (hR.1 _))]
          exact ⟨rfl, rfl⟩
        · have d1 : decide (c < 0) = false := decide_eq_false (by omega)
          have d2 : decide ((32 : Int) ≤ c) = true := decide_eq_true hin
          have HBad : Hid (¬ okAt xs 0) := Lib.hid (fun hok => by have h1 := hok c HC.out; omega)
          clear hin
          go_wp2_with fail
          go_ret
          rw [decide_eq_false (fun hR : RightL xs => HBad.out (hR.1 _))]
          exact ⟨rfl, rfl⟩
        · have d1 : decide (c < 0) = false := decide_eq_false (by omega)
          have d2 : decide ((32 : Int) ≤ c) = false := decide_eq_false (by omega)
          have HOk : Hid (okAt xs 0) := Lib.hid (fun p hp => by rw [HC.out] at hp; cases hp; exact ⟨hin.1, hin.2, fun q hq => by omega⟩)
          clear hin
          go_wp2_with fail
          go_roundw
          case rel => exact ⟨1, by omega, by go_num, fun j hj => (Nat.lt_one_iff.1 hj ▸ HOk.out), by first | exact Lib.hid rfl | exact Lib.hid trivial⟩
          case measure => simp [intOf]; omega
      · obtain ⟨q, hq⟩ : ∃ q, xs[k - 1]? = some q := ⟨_, List.getElem?_eq_getElem (by omega)⟩
        obtain ⟨_, hau2, hcq⟩ := H.out.at' (m := k - 1) (u := .int .i64 q) (by simp [hq])
        cases hau2
        have HQ := Lib.hid hq
        have hkp : decide ((0 : Int) < (k : Int)) = true := decide_eq_true (by omega)
        have hkp2 : decide (0 < k) = true := decide_eq_true hk0
        have hwk : IntKind.i64.wrap ((k : Int) - 1) = ((k - 1 : Nat) : Int) := by rw [show (k : Int) - 1 = ((k - 1 : Nat) : Int) by omega]; exact IntWalk.i64_in _ (by constructor <;> omega)
        have hk1 : ((k - 1 : Nat) : Int) < (xs.length : Int) := by omega
        have hk2 : (0 : Int) ≤ ((k - 1 : Nat) : Int) := by omega
        have HK0 := Lib.hid hk0
        clear hq hk0
        obtain ⟨K1, hK1⟩ : ∃ K1, k - 1 = K1 := ⟨_, rfl⟩
        have HK1 := Lib.hid hK1
        simp only [hK1] at hwk hk1 hk2 hcq
        clear hK1
        rcases (by omega : c < 0 ∨ 32 ≤ c ∨ ((0 ≤ c ∧ c < 32) ∧ c ≤ q) ∨ ((0 ≤ c ∧ c < 32) ∧ q < c)) with hin | hin | hin | hin
        · have d1 : decide (c < 0) = true := decide_eq_true hin
          have HBad : Hid (¬ okAt xs k) := Lib.hid (fun hok => by have h1 := hok c HC.out; omega)
          clear hin
          go_wp2_with fail
          go_ret
          rw [decide_eq_false (fun hR : RightL xs => HBad.out (hR.1 _))]
          exact ⟨rfl, rfl⟩
        · have d1 : decide (c < 0) = false := decide_eq_false (by omega)
          have d2 : decide ((32 : Int) ≤ c) = true := decide_eq_true hin
          have HBad : Hid (¬ okAt xs k) := Lib.hid (fun hok => by have h1 := hok c HC.out; omega)
          clear hin
          go_wp2_with fail
          go_ret
          rw [decide_eq_false (fun hR : RightL xs => HBad.out (hR.1 _))]
          exact ⟨rfl, rfl⟩
        · have d1 : decide (c < 0) = false := decide_eq_false (by omega)
          have d2 : decide ((32 : Int) ≤ c) = false := decide_eq_false (by omega)
          have d3 : decide (c ≤ q) = true := decide_eq_true hin.2
          have HBad : Hid (¬ okAt xs k) := Lib.hid (fun hok => by have h1 := (hok c HC.out).2.2 q HK0.out HQ.out; omega)
          clear hin
          go_wp2_with fail
          go_ret
          rw [decide_eq_false (fun hR : RightL xs => HBad.out (hR.1 _))]
          exact ⟨rfl, rfl⟩
        · have d1 : decide (c < 0) = false := decide_eq_false (by omega)
          have d2 : decide ((32 : Int) ≤ c) = false := decide_eq_false (by omega)
          have d3 : decide (c ≤ q) = false := decide_eq_false (by omega)
          have HOk : Hid (okAt xs k) := Lib.hid (fun p hp => by rw [HC.out] at hp; cases hp; exact ⟨hin.1.1, hin.1.2, fun q' _ hq' => by rw [HQ.out] at hq'; cases hq'; exact hin.2⟩)
          clear hin
          go_wp2_with fail
          go_roundw
          case rel => exact ⟨k + 1, by omega, by go_num, fun j hj => (if e : j = k then e ▸ HOk.out else HBf.out j (by omega)), by first | exact Lib.hid rfl | exact Lib.hid trivial⟩
          case measure => simp [intOf]; omega
    · have : k = xs.length := by omega
      subst this
      have hall : ∀ j, okAt xs j := fun j p hp => HBf.out j (List.getElem?_eq_some_iff.1 hp).1 p hp
      have HAl := Lib.hid hall
      clear hall
      rcases (by omega : xs.length < 1 ∨ 7 < xs.length ∨ (1 ≤ xs.length ∧ xs.length ≤ 7)) with hin | hin | hin
      · have d1 : decide ((1 : Int) ≤ (xs.length : Int)) = false := decide_eq_false (by omega)
        have d2 : decide (1 ≤ xs.length) = false := decide_eq_false (by omega)
        have HN := Lib.hid hin
        clear hin
        go_wp2_with fail
        go_ret
        rw [decide_eq_false (fun hR : RightL xs => by have := hR.2.1; have := HN.out; omega)]
        exact ⟨rfl, rfl⟩
      · have d1 : decide ((1 : Int) ≤ (xs.length : Int)) = true := decide_eq_true (by omega)
        have d2 : decide ((xs.length : Int) ≤ 7) = false := decide_eq_false (by omega)
        have d3 : decide (1 ≤ xs.length) = true := decide_eq_true (by omega)
        have d4 : decide (xs.length ≤ 7) = false := decide_eq_false (by omega)
        have HN := Lib.hid hin
        clear hin
        go_wp2_with fail
        go_ret
        rw [decide_eq_false (fun hR : RightL xs => by have := hR.2.2; have := HN.out; omega)]
        exact ⟨rfl, rfl⟩
      · have d1 : decide ((1 : Int) ≤ (xs.length : Int)) = true := decide_eq_true (by omega)
        have d2 : decide ((xs.length : Int) ≤ 7) = true := decide_eq_true (by omega)
        have d3 : decide (1 ≤ xs.length) = true := decide_eq_true (by omega)
        have d4 : decide (xs.length ≤ 7) = true := decide_eq_true (by omega)
        have HN := Lib.hid hin
        clear hin
        go_wp2_with fail
        go_ret
        rw [decide_eq_true (show RightL xs from ⟨HAl.out, HN.out.1, HN.out.2⟩)]
        exact ⟨rfl, rfl⟩
end Go.Proofs.YtgmdedkingampaaGreat
