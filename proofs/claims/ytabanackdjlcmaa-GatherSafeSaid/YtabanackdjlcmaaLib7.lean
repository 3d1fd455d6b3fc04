/-
  Slices of shards that the call itself has made. No program in sight.
-/
import Derived.Test.YtabanackdjlcmaaLib6
namespace Go.Proofs.Ytabanackdjlcmaa
open Go.ChangeShapes Go.WideShapes Go.ChangeAt Go.RowKit Go.Maps

theorem own_form {w : World} {base : Nat} {e : TypeId} {size : Nat} {v : Value} {n : Nat} {xs : List Value} (h : w.ownsRow base e size v n xs) : ∃ ao c, v = .slice ao n c ∧ n ≤ c ∧ c ≤ 9223372036854775807 := by
  rcases h.2 with ⟨rfl, h0⟩ | ⟨g, cap, cur, rfl, hb, hg, h1, h2, _⟩
  · exact ⟨none, 0, by rw [h0], by omega, by omega⟩
  · unfold maxLen at h2; exact ⟨_, cap, rfl, h1, by omega⟩
/-- Cells that read as shards. -/
def ShC (w : World) (vs : List Value) (hs : List Sh) : Prop :=
  vs.length = hs.length * 4 ∧ ∀ (i : Nat) s, hs[i]? = some s → vs[i * 4]? = some (.int .i64 s.id) ∧ vs[i * 4 + 1]? = some (.int .i64 s.segs) ∧ (∃ sv, vs[i * 4 + 2]? = some sv ∧ SlR w sv (u64s s.lens)) ∧ vs[i * 4 + 3]? = some (.bool s.fin)
theorem ShC.nil (w : World) : ShC w [] [] := ⟨rfl, by simp⟩
theorem ShC.below {B : Nat} {w w' : World} {vs : List Value} {hs : List Sh} (h : ShC w vs hs) (hb : Below B w w') (hB : w.heap.size ≤ B) : ShC w' vs hs :=
  ⟨h.1, fun i s hr => by obtain ⟨h1, h2, ⟨sv, h3, h4⟩, h5⟩ := h.2 i s hr; exact ⟨h1, h2, ⟨sv, h3, h4.below hb hB⟩, h5⟩⟩
theorem ShC.keep {S : Nat → Prop} {w w' : World} {vs : List Value} {hs : List Sh} (h : ShC w vs hs) (hk : Keep S w w') (ho : ∀ u ∈ vs, Off S u) : ShC w' vs hs :=
  ⟨h.1, fun i s hr => by obtain ⟨h1, h2, ⟨sv, h3, h4⟩, h5⟩ := h.2 i s hr; exact ⟨h1, h2, ⟨sv, h3, h4.keep hk (ho sv (List.mem_of_getElem? h3))⟩, h5⟩⟩
theorem ShC.snoc {w : World} {vs : List Value} {hs : List Sh} {s : Sh} {sv : Value} (h : ShC w vs hs) (hs' : SlR w sv (u64s s.lens)) : ShC w (vs ++ [.int .i64 s.id, .int .i64 s.segs, sv, .bool s.fin]) (hs ++ [s]) := by
  refine ⟨by simp [h.1]; omega, fun i x hx => ?_⟩
  rw [List.getElem?_append] at hx
  have hl := h.1
  by_cases hi : i < hs.length
  · rw [if_pos hi] at hx
    obtain ⟨h1, h2, ⟨sv', h3, h4⟩, h5⟩ := h.2 i x hx
    exact ⟨by rw [List.getElem?_append_left (by omega)]; exact h1, by rw [List.getElem?_append_left (by omega)]; exact h2, ⟨sv', by rw [List.getElem?_append_left (by omega)]; exact h3, h4⟩, by rw [List.getElem?_append_left (by omega)]; exact h5⟩
  · rw [if_neg hi] at hx
    have hi0 : i = hs.length := by
      have := (List.getElem?_eq_some_iff.1 hx).1
      simp at this; omega
    subst hi0
    simp at hx
    subst hx
    refine ⟨?_, ?_, ⟨sv, ?_, hs'⟩, ?_⟩
    · rw [List.getElem?_append_right (by omega), hl, Nat.sub_self]; rfl
    · rw [List.getElem?_append_right (by omega), hl, show hs.length * 4 + 1 - hs.length * 4 = 1 by omega]; rfl
    · rw [List.getElem?_append_right (by omega), hl, show hs.length * 4 + 2 - hs.length * 4 = 2 by omega]; rfl
    · rw [List.getElem?_append_right (by omega), hl, show hs.length * 4 + 3 - hs.length * 4 = 3 by omega]; rfl
theorem ShL.of_own {w : World} {base : Nat} {e : TypeId} {v : Value} {n : Nat} {vs : List Value} {hs : List Sh} (h : w.ownsRow base e 4 v n vs) (hc : ShC w vs hs) : ShL w v hs := by
  have hn : n = hs.length := by have := h.1; have := hc.1; omega
  subst hn
  rcases h.2 with ⟨rfl, h0⟩ | ⟨g, cap, cur, rfl, hb, hg, hnc, hcm, hcs, htake⟩
  · have : hs = [] := List.eq_nil_of_length_eq_zero h0
    subst this
    exact ShL.nil w
  · unfold maxLen at hcm
    refine ⟨some ⟨g, 0, none⟩, cap, rfl, hnc, by omega, fun i s hr => ?_⟩
    obtain ⟨h1, h2, ⟨sv, h3, h4⟩, h5⟩ := hc.2 i s hr
    refine ⟨_, sv, rfl, h.cells (g := g) rfl _ _ h1, ?_, ?_, ?_, h4⟩
    · rw [add_more _ _ _ (by omega)]; exact h.cells (g := g) rfl _ _ h2
    · rw [add_more _ _ _ (by omega)]; exact h.cells (g := g) rfl _ _ h3
    · rw [add_more _ _ _ (by omega)]; exact h.cells (g := g) rfl _ _ h5
end Go.Proofs.Ytabanackdjlcmaa
