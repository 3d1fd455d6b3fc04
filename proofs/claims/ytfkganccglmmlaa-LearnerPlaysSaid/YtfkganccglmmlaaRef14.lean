/-
  Contracts of the document's answers for package learner.
-/
import Derived.Test.YtfkganccglmmlaaLrnW
namespace Go.Proofs.Ytfkganccglmmlaa
open Go.ChangeShapes Go.WideShapes Go.ChangeAt Go.RowKit Go.Maps

/-- The document's list of what is known. -/
abbrev KL := List (Int × List Int)
def kcells (ks : KL) : List Value := ks.flatMap fun p => [.int .u64 p.1, .string (strB p.2)]
theorem kcells_len (ks : KL) : (kcells ks).length = ks.length * 2 := by
  induction ks with
  | nil => rfl
  | cons p r ih =>
    have : kcells (p :: r) = [.int .u64 p.1, .string (strB p.2)] ++ kcells r := rfl
    rw [this, List.length_append, ih]; simp; omega
theorem kcells_app (a b : KL) : kcells (a ++ b) = kcells a ++ kcells b := by simp [kcells]
theorem kcells_one (ks : KL) : ∀ u ∈ kcells ks, u.oneCell' = true := by
  intro u hu
  obtain ⟨p, _, hp⟩ := List.mem_flatMap.1 hu
  simp at hp
  rcases hp with rfl | rfl <;> rfl
theorem kcells_at (ks : KL) (i : Nat) (h : i < ks.length) : (kcells ks)[i * 2]? = some (.int .u64 ks[i].1) ∧ (kcells ks)[i * 2 + 1]? = some (.string (strB ks[i].2)) := by
  induction ks generalizing i with
  | nil => simp at h
  | cons p r ih =>
    have e : kcells (p :: r) = .int .u64 p.1 :: .string (strB p.2) :: kcells r := rfl
    rw [e]
    cases i with
    | zero => exact ⟨rfl, rfl⟩
    | succ i =>
      have := ih i (by simpa using h)
      rw [show (i + 1) * 2 = i * 2 + 2 by omega]
      simpa using this
/-- A slice that reads as such a list. -/
def KsR (w : World) (v : Value) (ks : KL) : Prop := ∃ ao c, v = .slice ao ks.length c ∧ ks.length ≤ c ∧ c ≤ maxLen ∧ ∀ i u, (kcells ks)[i]? = some u → ∃ a, ao = some a ∧ w.cell? (a.add i) = some u
theorem KsR.nil (w : World) : KsR w (.slice none 0 0) [] := ⟨none, 0, rfl, Nat.le_refl _, Nat.zero_le _, by simp [kcells]⟩
theorem KsR.below {B : Nat} {w w' : World} {v : Value} {ks : KL} (hb : Below B w w') (hB : w.heap.size ≤ B) (h : KsR w v ks) : KsR w' v ks := by
  obtain ⟨ao, c, hv, h1, h2, h3⟩ := h
  refine ⟨ao, c, hv, h1, h2, fun i u hi => ?_⟩
  obtain ⟨a, ha, hc⟩ := h3 i u hi
  refine ⟨a, ha, ?_⟩
  have := World.block_lt_of_cell? w _ hc
  rw [hb.cell (by omega)]
  exact hc
theorem KsR.drewN {w : World} {v : Value} {ks : KL} (h : KsR w v ks) (q : Nat) : KsR (w.drewN q) v ks := h.below (below_drewN (Below.refl w.heap.size w) q) (Nat.le_refl _)
theorem KsR.of_own {w : World} {base : Nat} {e : TypeId} {v : Value} {n : Nat} {ks : KL} (h : w.ownsRow base e 2 v n (kcells ks)) : KsR w v ks := by
  have hn : n = ks.length := by have := h.1; rw [kcells_len] at this; omega
  subst hn
  rcases h.2 with ⟨rfl, h0⟩ | ⟨g, cap, cur, rfl, hb, hg, hnc, hcm, hcs, htake⟩
  · have : ks = [] := List.eq_nil_of_length_eq_zero h0
    subst this
    exact KsR.nil w
  · exact ⟨some ⟨g, 0, none⟩, cap, rfl, hnc, hcm, fun i u hi => ⟨_, rfl, h.cells (g := g) rfl i u hi⟩⟩
theorem add_odd (a : Addr) (i : Nat) : (⟨(a.add (i * 2)).block, (a.add (i * 2)).off + 1, none⟩ : Addr) = a.add (i * 2 + 1) := by
  rw [Addr.add_succ']
  unfold Addr.add
  by_cases h : i * 2 = 0
  · rw [if_pos h]; simp [h]
  · rw [if_neg h]; simp; omega
/-- What one needs in a walk of it. -/
theorem KsR.row {w : World} {v : Value} {ks : KL} (h : KsR w v ks) : ∃ ao c, v = .slice ao ks.length c ∧ ks.length ≤ c ∧ c ≤ 9223372036854775807 ∧
    ∀ (i : Nat) (hi : i < ks.length), ∃ a, ao = some a ∧ w.cell? (a.add (i * 2)) = some (.int .u64 ks[i].1) ∧ w.cell? ⟨(a.add (i * 2)).block, (a.add (i * 2)).off + 1, none⟩ = some (.string (strB ks[i].2)) := by
  obtain ⟨ao, c, hv, h1, h2, h3⟩ := h
  unfold maxLen at h2
  refine ⟨ao, c, hv, h1, by omega, fun i hi => ?_⟩
  obtain ⟨e1, e2⟩ := kcells_at ks i hi
  obtain ⟨a, rfl, c1⟩ := h3 _ _ e1
  obtain ⟨a', ha', c2⟩ := h3 _ _ e2
  cases ha'
  exact ⟨a, rfl, c1, by rw [add_odd]; exact c2⟩

/-- Where a slot stands. -/
def fN (ks : KL) (slot : Int) : Nat := ks.findIdx fun p => p.1 == slot
def fI (ks : KL) (slot : Int) : Int := if fN ks slot < ks.length then fN ks slot else -1
/-- What is known by it. -/
def KM (ks : KL) : Kn := fun j => if h : fN ks j < ks.length then some ks[fN ks j].2 else none
theorem fI_some {ks : KL} {slot : Int} {xs : List Int} (h : KM ks slot = some xs) : ∃ i : Nat, fI ks slot = i ∧ ∃ hi : i < ks.length, ks[i].2 = xs := by
  unfold KM at h
  by_cases hi : fN ks slot < ks.length
  · rw [dif_pos hi] at h
    exact ⟨fN ks slot, by unfold fI; rw [if_pos hi], hi, by cases h; rfl⟩
  · rw [dif_neg hi] at h; cases h
theorem fI_none {ks : KL} {slot : Int} (h : KM ks slot = none) : fI ks slot = -1 := by
  unfold KM at h
  by_cases hi : fN ks slot < ks.length
  · rw [dif_pos hi] at h; cases h
  · unfold fI; rw [if_neg hi]
theorem fI_at {ks : KL} {slot : Int} {i : Nat} (hi : i < ks.length) (h : ks[i].1 = slot) (h2 : ∀ j (hj : j < ks.length), j < i → ks[j].1 ≠ slot) : fI ks slot = i := by
  have : fN ks slot = i := by
    unfold fN
    rw [List.findIdx_eq hi]
    exact ⟨by simpa using h, fun j hj => by simpa using h2 j (by omega) hj⟩
  unfold fI
  rw [this, if_pos hi]
theorem fI_no {ks : KL} {slot : Int} (h2 : ∀ j (hj : j < ks.length), ks[j].1 ≠ slot) : fI ks slot = -1 := by
  have : fN ks slot = ks.length := by
    unfold fN
    rw [List.findIdx_eq_length]
    intro p hp
    obtain ⟨j, hj, rfl⟩ := List.getElem_of_mem hp
    simpa using h2 j hj
  unfold fI
  rw [this, if_neg (by omega)]
theorem KM_nil : KM [] = fun _ => none := by funext j; simp [KM]
theorem KM_snoc {ks : KL} {slot : Int} {xs : List Int} (h : KM ks slot = none) : KM (ks ++ [(slot, xs)]) = putK (KM ks) slot xs := by
  have hn : ¬ fN ks slot < ks.length := by
    intro hi; unfold KM at h; rw [dif_pos hi] at h; cases h
  funext j
  simp only [KM, putK]
  have hf : fN (ks ++ [(slot, xs)]) j = if fN ks j < ks.length then fN ks j else (if slot = j then ks.length else ks.length + 1) := by
    unfold fN
    rw [List.findIdx_append]
    by_cases hc : List.findIdx (fun p => p.1 == j) ks < ks.length
    · rw [if_pos hc, if_pos hc]
    · rw [if_neg hc, if_neg hc, List.findIdx_cons]
      by_cases e : slot = j
      · simp [e]
      · rw [show (slot == j) = false by rw [beq_eq_false_iff_ne]; exact e, if_neg e]
        simp; omega
  by_cases hi : fN ks j < ks.length
  · have hj : j ≠ slot := fun e => hn (e ▸ hi)
    rw [if_neg hj, dif_pos hi]
    have e1 : fN (ks ++ [(slot, xs)]) j = fN ks j := by rw [hf, if_pos hi]
    rw [dif_pos (by rw [e1]; simp; omega)]
    congr 2
    simp only [e1]
    rw [List.getElem_append_left hi]
  · rw [if_neg hi] at hf
    rw [dif_neg hi]
    by_cases e : j = slot
    · subst e
      rw [if_pos rfl] at hf
      rw [if_pos rfl, dif_pos (by rw [hf]; simp)]
      congr 1
      simp only [hf]
      simp
    · rw [if_neg (fun e' => e e'.symm)] at hf
      rw [if_neg e, dif_neg (by rw [hf]; simp)]

set_option maxHeartbeats 400000 in
theorem find_any {v : Value} {ks : KL} {w : World} (slot : Int) (h : KsR w v ks) :
    Calls Try.prog 19 #[v, .int .u64 slot] w fun e w' => e = .returned (.int .i64 (fI ks slot)) ∧ w = w' := by
  obtain ⟨ao, c, rfl, hc, hm, hx⟩ := h.row
  have HA := Lib.hid (fun i hi h h2 => @fI_at ks slot i hi h h2)
  have HN := Lib.hid (fun h => @fI_no ks slot h)
  clear h
  go_enter Try.func19, Try.ntmps19
  go_wp2
  go_loop [5] (fun i => ∃ k : Nat, k ≤ ks.length ∧ i = .int .i64 k ∧ ∀ j (hj : j < ks.length), j < k → ks[j].1 ≠ slot) (fun i => ks.length - (intOf i).toNat)
  case atStart => exact ⟨0, by omega, rfl, by intro j _ hj; omega⟩
  case round =>
    obtain ⟨k, hk, rfl, hall⟩ := hrel
    have HAll := Lib.hid hall
    clear hall
    by_cases hlt : k < ks.length
    · obtain ⟨a, rfl, hc1, _⟩ := hx k hlt
      have hc10 : k = 0 → w.cell? a = some (.int .u64 ks[k].1) := fun e => by subst e; rw [show a.add (0 * 2) = a by cases a; rfl] at hc1; exact hc1
      obtain ⟨s, hs⟩ : ∃ s, s = ks[k].1 := ⟨_, rfl⟩
      rw [← hs] at hc1 hc10
      have HS := Lib.hid hs
      clear hx hs
      by_cases hq : s = slot
      · have hqb : (s == slot) = true := by rw [beq_iff_eq]; exact hq
        have hr := HA.out k hlt (by rw [← HS.out]; exact hq) HAll.out
        have HRr := Lib.hid hr
        clear hr
        go_wp2_with fail
        go_ret
        exact ⟨by rw [HRr.out]; rfl, rfl⟩
      · have hqb : (s == slot) = false := by rw [beq_eq_false_iff_ne]; exact hq
        have HQ := Lib.hid hq
        clear hq
        go_wp2_with fail
        go_round
        case rel =>
          refine ⟨k + 1, by omega, by go_num, fun j hj h => ?_⟩
          by_cases e : j = k
          · subst e; rw [← HS.out]; exact HQ.out
          · exact HAll.out j hj (by omega)
        case measure => simp [intOf]; omega
    · have hr := HN.out (fun j hj => HAll.out j hj (by omega))
      have HRr := Lib.hid hr
      clear hr hx
      go_wp2_with fail
      go_ret
      exact ⟨by rw [HRr.out]; rfl, rfl⟩
end Go.Proofs.Ytfkganccglmmlaa
