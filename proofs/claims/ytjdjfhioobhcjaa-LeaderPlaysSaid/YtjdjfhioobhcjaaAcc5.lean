/-
  Package acceptor: rows of votes; Prepare.
-/
import Derived.Test.YtjdjfhioobhcjaaAcc4
import Derived.Test.YtjdjfhioobhcjaaKeyU
namespace Go.Proofs.Ytjdjfhioobhcjaa
open Go.ChangeShapes Go.WideShapes Go.ChangeAt Go.RowKit Go.Maps Go.Shelf
set_option maxRecDepth 100000

/-- Cells that read as votes. -/
def VtC (w : World) (vs : List Value) (hs : List Vt) : Prop :=
  vs.length = hs.length * 3 ∧ ∀ (i : Nat) s, hs[i]? = some s → vs[i * 3]? = some (.int .u64 s.slot) ∧ vs[i * 3 + 1]? = some (.int .u64 s.ballot) ∧ (∃ sv, vs[i * 3 + 2]? = some sv ∧ SlR w sv (u8s s.val))
theorem VtC.nil (w : World) : VtC w [] [] := ⟨rfl, by simp⟩
theorem VtC.below {B : Nat} {w w' : World} {vs : List Value} {hs : List Vt} (h : VtC w vs hs) (hb : Below B w w') (hB : w.heap.size ≤ B) : VtC w' vs hs :=
  ⟨h.1, fun i s hr => by obtain ⟨h1, h2, sv, h3, h4⟩ := h.2 i s hr; exact ⟨h1, h2, sv, h3, h4.below hb hB⟩⟩
theorem VtC.keep {S : Nat → Prop} {w w' : World} {vs : List Value} {hs : List Vt} (h : VtC w vs hs) (hk : Keep S w w') (ho : ∀ u ∈ vs, Off S u) : VtC w' vs hs :=
  ⟨h.1, fun i s hr => by obtain ⟨h1, h2, sv, h3, h4⟩ := h.2 i s hr; exact ⟨h1, h2, sv, h3, h4.keep hk (ho sv (List.mem_of_getElem? h3))⟩⟩
theorem VtC.snoc {w : World} {vs : List Value} {hs : List Vt} {s : Vt} {sv : Value} (h : VtC w vs hs) (hs' : SlR w sv (u8s s.val)) : VtC w (vs ++ [.int .u64 s.slot, .int .u64 s.ballot, sv]) (hs ++ [s]) := by
  refine ⟨by simp [h.1]; omega, fun i x hx => ?_⟩
  rw [List.getElem?_append] at hx
  have hl := h.1
  by_cases hi : i < hs.length
  · rw [if_pos hi] at hx
    obtain ⟨h1, h2, sv', h3, h4⟩ := h.2 i x hx
    exact ⟨by rw [List.getElem?_append_left (by omega)]; exact h1, by rw [List.getElem?_append_left (by omega)]; exact h2, sv', by rw [List.getElem?_append_left (by omega)]; exact h3, h4⟩
  · rw [if_neg hi] at hx
    have hi0 : i = hs.length := by
      have := (List.getElem?_eq_some_iff.1 hx).1
      simp at this; omega
    subst hi0
    simp at hx
    subst hx
    refine ⟨?_, ?_, sv, ?_, hs'⟩
    · rw [List.getElem?_append_right (by omega), hl, Nat.sub_self]; rfl
    · rw [List.getElem?_append_right (by omega), hl, show hs.length * 3 + 1 - hs.length * 3 = 1 by omega]; rfl
    · rw [List.getElem?_append_right (by omega), hl, show hs.length * 3 + 2 - hs.length * 3 = 2 by omega]; rfl
/-- A slice that reads as votes. -/
def VtL (w : World) (v : Value) (hs : List Vt) : Prop := ∃ ao c, v = .slice ao hs.length c ∧ hs.length ≤ c ∧ c ≤ 9223372036854775807 ∧
  ∀ (i : Nat) s, hs[i]? = some s → ∃ a sv, ao = some a ∧ w.cell? (a.add (i * 3)) = some (.int .u64 s.slot) ∧ w.cell? ⟨(a.add (i * 3)).block, (a.add (i * 3)).off + 1, none⟩ = some (.int .u64 s.ballot) ∧
    w.cell? ⟨(a.add (i * 3)).block, (a.add (i * 3)).off + 2, none⟩ = some sv ∧ SlR w sv (u8s s.val)
theorem VtL.nil (w : World) : VtL w (.slice none 0 0) [] := ⟨none, 0, rfl, Nat.le_refl _, by omega, by simp⟩
theorem VtL.below {B : Nat} {w w' : World} {v : Value} {hs : List Vt} (hb : Below B w w') (hB : w.heap.size ≤ B) (h : VtL w v hs) : VtL w' v hs := by
  obtain ⟨ao, c, e, h1, h2, hx⟩ := h
  refine ⟨ao, c, e, h1, h2, fun i s hs => ?_⟩
  obtain ⟨a, sv, ha, c1, c2, c3, hs⟩ := hx i s hs
  refine ⟨a, sv, ha, ?_, ?_, ?_, hs.below hb hB⟩
  · rw [hb.cell (by have := World.block_lt_of_cell? w _ c1; omega)]; exact c1
  · rw [hb.cell (by have := World.block_lt_of_cell? w _ c2; omega)]; exact c2
  · rw [hb.cell (by have := World.block_lt_of_cell? w _ c3; omega)]; exact c3
theorem VtL.of_own {w : World} {base : Nat} {e : TypeId} {v : Value} {n : Nat} {vs : List Value} {hs : List Vt} (h : w.ownsRow base e 3 v n vs) (hc : VtC w vs hs) : VtL w v hs := by
  have hn : n = hs.length := by have := h.1; have := hc.1; omega
  subst hn
  rcases h.2 with ⟨rfl, h0⟩ | ⟨g, cap, cur, rfl, hb, hg, hnc, hcm, hcs, htake⟩
  · have : hs = [] := List.eq_nil_of_length_eq_zero h0
    subst this
    exact VtL.nil w
  · unfold maxLen at hcm
    refine ⟨some ⟨g, 0, none⟩, cap, rfl, hnc, by omega, fun i s hr => ?_⟩
    obtain ⟨h1, h2, sv, h3, h4⟩ := hc.2 i s hr
    refine ⟨_, sv, rfl, h.cells (g := g) rfl _ _ h1, ?_, ?_, h4⟩
    · rw [add_more _ _ _ (by omega)]; exact h.cells (g := g) rfl _ _ h2
    · rw [add_more _ _ _ (by omega)]; exact h.cells (g := g) rfl _ _ h3
/-- A row of votes, each with a slice of its own. -/
def obVts (v : Value) (e : TypeId) (vs : List Value) (hs : List Vt) : Ob :=
  ⟨fun k => v.ownBlock = some k ∨ ∃ u ∈ vs, u.ownBlock = some k, fun w => w.ownsRow 0 e 3 v hs.length vs ∧ VtC w vs hs ∧ (∀ u ∈ vs, ∀ k, u.ownBlock = some k → v.ownBlock ≠ some k ∧ k < w.heap.size)⟩
theorem obVts_good (v : Value) (e : TypeId) (vs : List Value) (hs : List Vt) : (obVts v e vs hs).Good :=
  ⟨fun {S w w'} h hk hs => ⟨own_keepS hk h.1 (fun k hv hS => hs k hS (Or.inl hv)), h.2.1.keep hk (fun u hu k hv hS => hs k hS (Or.inr ⟨u, hu, hv⟩)), fun u hu k hv => ⟨(h.2.2 u hu k hv).1, Nat.lt_of_lt_of_le (h.2.2 u hu k hv).2 hk.size⟩⟩,
   fun {w} h k hk => by
    rcases hk with e | ⟨u, hu, e⟩
    · exact (h.1.lt k e).2
    · exact (h.2.2 u hu k e).2⟩
/-- A vote with its own slice joins the row. -/
theorem Sep.vtApp {B : Nat} {w w' : World} {os : List Ob} {v lv : Value} {e eu : TypeId} {vs : List Value} {hs : List Vt} {n g cap : Nat} {s : Vt} {o : Obj} (h : Sep B w (obVts v e vs hs :: obRow lv eu 1 n (u8s s.val) :: os)) (hg : (w.alloc o).grownBy w' v.ownBlock) (hor : v.ownBlock = some g ∨ g = w.heap.size + 1)
    (hown : w'.ownsRow 0 e 3 (.slice (some ⟨g, 0, none⟩) (hs.length + 1) cap) (hs.length + 1) (vs ++ [.int .u64 s.slot, .int .u64 s.ballot, lv])) :
    Sep B w' (obVts (.slice (some ⟨g, 0, none⟩) (hs.length + 1) cap) e (vs ++ [.int .u64 s.slot, .int .u64 s.ballot, lv]) (hs ++ [s]) :: os) ∧ Keep (fun k => v.ownBlock = some k) w w' := by
  have hk : Keep (fun k => v.ownBlock = some k) w w' := (Below.keep0 _ ((Below.refl _ _).alloc (Nat.le_refl _) o)).trans (Keep.grown hg (fun k hk => hk))
  have h0 := h.get 0 rfl
  have h1 : w.ownsRow 0 eu 1 lv n (u8s s.val) := h.get 1 rfl
  have hd := h.two (i := 0) (j := 1) (by omega) rfl rfl
  have hlv : Off (fun k => v.ownBlock = some k) lv := fun k hk hv => hd k (Or.inl hv) hk
  have h1' := own_keepS hk h1 hlv
  have hgne : ∀ k, k < w.heap.size → v.ownBlock ≠ some k → (Value.slice (some ⟨g, 0, none⟩) (hs.length + 1) cap).ownBlock ≠ some k := fun k hk' hne hh => by
    cases hh
    rcases hor with hh | hh
    · exact hne hh
    · have : g < w.heap.size := hk'
      omega
  refine ⟨h.join (hk.mono (fun k _ hv => Or.inl (Or.inl hv))) (obVts_good ..) ⟨by rw [List.length_append]; exact hown, (h0.2.1.keep hk (fun u hu k hk' hv => (h0.2.2 u hu k hk').1 hv)).snoc (SlR.of_own h1'), fun u hu k hk' => ?_⟩ (fun k hf => ?_), hk⟩
  · rcases List.mem_append.1 hu with hu | hu
    · exact ⟨hgne k (h0.2.2 u hu k hk').2 (h0.2.2 u hu k hk').1, Nat.lt_of_lt_of_le (h0.2.2 u hu k hk').2 hk.size⟩
    · simp at hu
      rcases hu with rfl | rfl | rfl
      · cases hk'
      · cases hk'
      · exact ⟨hgne k (h1.lt k hk').2 (fun hv => hd k (Or.inl hv) hk'), (h1'.lt k hk').2⟩
  · rcases hf with hf | ⟨u, hu, hf⟩
    · cases hf
      rcases hor with hh | hh
      · exact Or.inl (Or.inl (Or.inl hh))
      · exact Or.inr (by show w.heap.size ≤ g; omega)
    · rcases List.mem_append.1 hu with hu | hu
      · exact Or.inl (Or.inl (Or.inr ⟨u, hu, hf⟩))
      · simp at hu
        rcases hu with rfl | rfl | rfl
        · cases hf
        · cases hf
        · exact Or.inl (Or.inr hf)

end Go.Proofs.Ytjdjfhioobhcjaa
