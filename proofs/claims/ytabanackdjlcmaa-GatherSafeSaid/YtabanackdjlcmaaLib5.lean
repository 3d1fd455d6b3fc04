/-
  Slices of slices, of whatever number's kind. No program in sight.
-/
import Derived.Test.YtabanackdjlcmaaLib4
namespace Go.Proofs.Ytabanackdjlcmaa
open Go.ChangeShapes Go.WideShapes Go.ChangeAt Go.RowKit Go.Maps

/-- These values are slices that read as these lists. -/
def ValsK (w : World) (k : IntKind) (vs : List Value) (L : List (List Int)) : Prop := vs.length = L.length ∧ ∀ (i : Nat) u r, vs[i]? = some u → L[i]? = some r → SlR w u (r.map (Value.int k))
/-- A slice of slices that reads as rows of numbers. -/
def RowsK (w : World) (k : IntKind) (v : Value) (L : List (List Int)) : Prop := ∃ vs, SlR w v vs ∧ ValsK w k vs L
theorem ValsK.nil (w : World) (k : IntKind) : ValsK w k [] [] := ⟨rfl, by simp⟩
theorem ValsK.below {B : Nat} {w w' : World} {k : IntKind} {vs : List Value} {L : List (List Int)} (h : ValsK w k vs L) (hb : Below B w w') (hB : w.heap.size ≤ B) : ValsK w' k vs L :=
  ⟨h.1, fun i u r hu hr => (h.2 i u r hu hr).below hb hB⟩
theorem ValsK.keep {S : Nat → Prop} {w w' : World} {k : IntKind} {vs : List Value} {L : List (List Int)} (h : ValsK w k vs L) (hk : Keep S w w') (ho : ∀ u ∈ vs, Off S u) : ValsK w' k vs L :=
  ⟨h.1, fun i u r hu hr => (h.2 i u r hu hr).keep hk (ho u (List.mem_of_getElem? hu))⟩
theorem ValsK.snoc {w : World} {k : IntKind} {vs : List Value} {L : List (List Int)} {u : Value} {r : List Int} (h : ValsK w k vs L) (hu : SlR w u (r.map (Value.int k))) : ValsK w k (vs ++ [u]) (L ++ [r]) := by
  refine ⟨by simp [h.1], fun i u' r' h1 h2 => ?_⟩
  rw [List.getElem?_append] at h1 h2
  rw [h.1] at h1
  split at h1
  · rename_i hk; rw [if_pos hk] at h2; exact h.2 i u' r' h1 h2
  · rename_i hk; rw [if_neg hk] at h2
    have : i - L.length = 0 := by have := (List.getElem?_eq_some_iff.1 h1).1; simp at this; omega
    rw [this] at h1 h2
    simp at h1 h2
    subst h1; subst h2; exact hu
theorem ValsK.one {w : World} {k : IntKind} {vs : List Value} {L : List (List Int)} (h : ValsK w k vs L) : ∀ u ∈ vs, u.oneCell' = true := by
  intro u hu
  obtain ⟨i, hi, rfl⟩ := List.getElem_of_mem hu
  obtain ⟨ao, c, e, _⟩ := (h.2 i _ _ (List.getElem?_eq_getElem hi) (List.getElem?_eq_getElem (by have := h.1; omega))).form
  rw [e]; rfl
theorem RowsK.below {B : Nat} {w w' : World} {k : IntKind} {v : Value} {L : List (List Int)} (hb : Below B w w') (hB : w.heap.size ≤ B) (h : RowsK w k v L) : RowsK w' k v L := by
  obtain ⟨vs, h1, h2⟩ := h
  exact ⟨vs, h1.below hb hB, h2.below hb hB⟩
theorem RowsK.nil (w : World) (k : IntKind) : RowsK w k (.slice none 0 0) [] := ⟨[], SlR.nil w, ValsK.nil w k⟩
/-- What one needs in a walk of it. -/
theorem RowsK.row {w : World} {k : IntKind} {v : Value} {L : List (List Int)} (h : RowsK w k v L) : ∃ ao c, v = .slice ao L.length c ∧ L.length ≤ c ∧ c ≤ 9223372036854775807 ∧
    ∀ (i : Nat) (hi : i < L.length), ∃ a u, ao = some a ∧ w.cell? (a.add i) = some u ∧ SlR w u (L[i].map (Value.int k)) := by
  obtain ⟨vs, h1, h2⟩ := h
  obtain ⟨ao, c, hv, hc, hm, hx⟩ := h1
  unfold maxLen at hm
  refine ⟨ao, c, by rw [hv, h2.1], by rw [← h2.1]; exact hc, by omega, fun i hi => ?_⟩
  have hi' : i < vs.length := by rw [h2.1]; exact hi
  obtain ⟨a, ha, hc⟩ := hx i _ (List.getElem?_eq_getElem hi')
  exact ⟨a, _, ha, hc, h2.2 i _ _ (List.getElem?_eq_getElem hi') (List.getElem?_eq_getElem hi)⟩
/-- No element lies in the row's own block, each in a block that is. -/
def OffRow (w : World) (o : Value) (vs : List Value) : Prop := ∀ u ∈ vs, ∀ k, u.ownBlock = some k → o.ownBlock ≠ some k ∧ k < w.heap.size
theorem OffRow.nil (w : World) (o : Value) : OffRow w o [] := fun u hu => by cases hu

/-- From what lies in the cells. -/
theorem RowsK.of_cells {W : World} {k : IntKind} {v : Value}
    (h : ∃ ao c L, v = .slice ao (List.length L) c ∧ List.length L ≤ c ∧ c ≤ maxLen ∧ ∀ (i : Nat) r, L[i]? = some r → ∃ a u, ao = some a ∧ W.cell? (a.add i) = some u ∧ SlR W u (List.map (Value.int k) r)) :
    ∃ L, RowsK W k v L := by
  obtain ⟨ao, c, L, rfl, h1, h2, hx⟩ := h
  refine ⟨L, ?_⟩
  cases ao with
  | none =>
    have hL : L = [] := by
      cases L with
      | nil => rfl
      | cons r R => obtain ⟨a, u, ha, _⟩ := hx 0 r rfl; cases ha
    subst hL
    exact ⟨[], ⟨none, c, rfl, h1, h2, by simp⟩, rfl, by simp⟩
  | some a =>
    refine ⟨(List.range L.length).map fun i => (W.cell? (a.add i)).getD undef, ⟨some a, c, by simp, by simpa using h1, h2, fun i u hi => ⟨a, rfl, ?_⟩⟩, by simp, fun i u r hu hr => ?_⟩
    · have hl : i < L.length := by have := (List.getElem?_eq_some_iff.1 hi).1; simpa using this
      obtain ⟨a', u', ha, hc, _⟩ := hx i _ (List.getElem?_eq_getElem hl)
      cases ha
      simp [hl, hc] at hi
      rw [hc, hi]
    · obtain ⟨a', u', ha, hc, hs⟩ := hx i r hr
      cases ha
      have hl : i < L.length := (List.getElem?_eq_some_iff.1 hr).1
      simp [hl, hc] at hu
      rw [← hu]; exact hs
/-- A slice of slices of numbers among the arguments. -/
theorem arg_rowsK {H : Type} {enc : TypeId × Value → H} {P : Program} {W : World} {t e q : TypeId} {k : IntKind} {v : Value} {d : DataW H} {ps : List MemPlace} {r : Reach} {b0 : Nat}
    (ht : P.underlying t = some (.slice e)) (he : P.underlying e = some (.slice q)) (hq : P.underlying q = some (.int k)) (ce : P.cellsOf e = 1) (cq : P.cellsOf q = 1) (hval : Value.okWide P W r b0 t v)
    (h : DataW.Trod enc P W 0 (fun _ => true) true t v d ps) : ∃ L : List (List Int), RowsK W k v L ∧ ∀ r ∈ L, ∀ x ∈ r, (Lit.int k x).wf = true := by
  obtain ⟨a0, len0, cap0, rfl⟩ := WideShapes.okWide_slice ht hval
  obtain ⟨fuel, hf⟩ := h
  rcases Deep.open_int_rows ht he hq ce cq hf with ⟨hcs, _⟩ | ⟨a, len, cap, A, Ln, C, Z, hcs, _, hl, hm, _, hr⟩
  · simp [Value.cells] at hcs
    obtain ⟨rfl, rfl, rfl⟩ := hcs
    exact ⟨[], RowsK.nil W k, by simp⟩
  · simp [Value.cells] at hcs
    obtain ⟨rfl, rfl, rfl⟩ := hcs
    refine ⟨(List.range len0).map fun r => (Z r).take (Ln r), ⟨(List.range len0).map fun r => .slice (A r) (Ln r) (C r), ⟨some a, cap0, by simp, by simpa using hl, hm, fun i u hi => ?_⟩, by simp, fun i u r hu hi => ?_⟩, fun r hi => ?_⟩
    · have hi2 : i < len0 := by have := (List.getElem?_eq_some_iff.1 hi).1; simpa using this
      simp [hi2] at hi
      subst hi
      exact ⟨a, rfl, (hr i (by omega)).1⟩
    · have hi2 : i < len0 := by have := (List.getElem?_eq_some_iff.1 hi).1; simpa using this
      simp [hi2] at hi hu
      subst hi hu
      obtain ⟨h1, h2, h3, h4, h5, h6, h7⟩ := hr i (by omega)
      cases hA : A i with
      | none =>
        have hC := h6 hA
        have hZ : Z i = [] := List.eq_nil_of_length_eq_zero (by omega)
        have hL : Ln i = 0 := by omega
        rw [hZ, hL, hC]
        exact SlR.nil W
      | some a' => exact SlR.of_cells h2 h3 h4 (fun c hc => (h7 a' hA).2 c (by omega))
    · obtain ⟨j, hj, rfl⟩ := List.mem_map.1 hi
      exact fun x hx => (hr j (by have := List.mem_range.1 hj; omega)).2.2.2.2.1 x (List.mem_of_mem_take hx)
end Go.Proofs.Ytabanackdjlcmaa
