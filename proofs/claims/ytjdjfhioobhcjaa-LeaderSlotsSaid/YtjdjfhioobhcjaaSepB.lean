/-
  Blocks known whole, among other things of the call's own.
-/
import Derived.Test.YtjdjfhioobhcjaaAcc8
namespace Go.Proofs.Ytjdjfhioobhcjaa
open Go.ChangeShapes Go.WideShapes Go.ChangeAt Go.RowKit Go.Maps

section
variable {W w w' : World} {os : List Ob}
theorem SepW.blk (h : SepW W w os) {b : Nat} {cs : Array Value} {t : TypeId} (i : Nat) (hi : os[i]? = some (obBlk b (.cells cs t))) (j : Nat) (u : Value) (hu : cs.toList[j]? = some u) : w.cell? ⟨b, j, none⟩ = some u ∧ w.frozen? ⟨b, j, none⟩ = false := by
  have hb : w.heap[b]? = some (.cells cs t (0, 0)) := h.get i hi
  refine ⟨by simpa [World.cell?, hb] using hu, by simp [World.frozen?, hb]⟩
theorem SepW.newBlk (h : SepW W w os) (cs : Array Value) (t : TypeId) : SepW W (w.alloc (.cells cs t)) (obBlk w.heap.size (.cells cs t) :: os) :=
  h.new (below_lit w (.cells cs t)) (obBlk_good w.heap.size (.cells cs t)) (heap_alloc_new w _) (fun q hq => by rw [show q = w.heap.size from hq]; exact Nat.le_refl _)
theorem SepW.blkSet3 (h : SepW W w os) {b : Nat} {a0 a1 a2 : Value} {t : TypeId} (i : Nat) (hi : os[i]? = some (obBlk b (.cells #[a0, a1, a2] t))) (v0 v1 v2 : Value) :
    SepW W (((w.setCell ⟨b, 0, none⟩ v0).setCell ⟨b, 1, none⟩ v1).setCell ⟨b, 2, none⟩ v2) (os.set i (obBlk b (.cells #[v0, v1, v2] t))) := by
  have hb : w.heap[b]? = some (.cells #[a0, a1, a2] t (0, 0)) := h.get i hi
  have b1 := heap_setCell_same w b 0 _ _ v0 hb
  have b2 := heap_setCell_same _ b 1 _ _ v1 b1
  have b3 := heap_setCell_same _ b 2 _ _ v2 b2
  refine h.set i hi (((Keep.refl (fun q => q = b) w).setCell (p := ⟨b, 0, none⟩) (Or.inl rfl) v0).setCell (p := ⟨b, 1, none⟩) (Or.inl rfl) v1 |>.setCell (p := ⟨b, 2, none⟩) (Or.inl rfl) v2) (obBlk_good ..) ?_ (fun k hk => Or.inl hk)
  show (((w.setCell ⟨b, 0, none⟩ v0).setCell ⟨b, 1, none⟩ v1).setCell ⟨b, 2, none⟩ v2).heap[b]? = _
  simpa using b3
theorem SepW.blkSet (h : SepW W w os) {b : Nat} {cs : Array Value} {t : TypeId} (i : Nat) (hi : os[i]? = some (obBlk b (.cells cs t))) (j : Nat) (v : Value) :
    SepW W (w.setCell ⟨b, j, none⟩ v) (os.set i (obBlk b (.cells (cs.setIfInBounds j v) t))) := by
  have hb : w.heap[b]? = some (.cells cs t (0, 0)) := h.get i hi
  exact h.set i hi ((Keep.refl (fun q => q = b) w).setCell (p := ⟨b, j, none⟩) (Or.inl rfl) v) (obBlk_good ..) (heap_setCell_same w b j _ _ v hb) (fun k hk => Or.inl hk)
theorem SepW.drew (h : SepW W w os) : SepW W w.drew os := h.step (Below.refl _ _).drew
theorem SepW.drewN (h : SepW W w os) (n : Nat) : SepW W (w.drewN n) os := h.step (below_drewN (Below.refl _ _) n)
theorem SepW.perm {l : List Ob} (h : SepW W w os) (hl : os.Perm l) : SepW W w l := ⟨h.sep.perm hl, h.below⟩
theorem SepW.row (h : SepW W w os) (i : Nat) {v : Value} {e : TypeId} {n : Nat} {xs : List Value} (hi : os[i]? = some (obRow v e 1 n xs)) : SlR w v xs := SlR.of_own (h.get i hi : w.ownsRow 0 e 1 v n xs)
theorem SepW.newRow (h : SepW W w os) {v : Value} {e : TypeId} {z n : Nat} {xs : List Value} (ho : w'.ownsRow w.heap.size e z v n xs) (hb : Below w.heap.size w w') : SepW W w' (obRow v e z n xs :: os) :=
  h.new hb (obRow_good ..) (ho.weaken (Nat.zero_le _)) (fun k hk => (ho.lt k hk).1)
theorem SepW.vtL (h : SepW W w os) (i : Nat) {v : Value} {e : TypeId} {vs : List Value} {hs : List Vt} (hi : os[i]? = some (obVts v e vs hs)) : VtL w v hs := by
  have hv : (obVts v e vs hs).inv w := h.get i hi
  exact VtL.of_own hv.1 hv.2.1
/-- An element joins a row of the call's own. -/
theorem SepW.rowApp (h : SepW W w os) (i : Nat) {v : Value} {e : TypeId} {z n n' g cap : Nat} {xs ys : List Value} {o : Obj} (hi : os[i]? = some (obRow v e z n xs)) (hg : (w.alloc o).grownBy w' v.ownBlock) (hor : v.ownBlock = some g ∨ g = w.heap.size + 1)
    (hown : w'.ownsRow 0 e z (.slice (some ⟨g, 0, none⟩) n' cap) n' ys) : SepW W w' (os.set i (obRow (.slice (some ⟨g, 0, none⟩) n' cap) e z n' ys)) := by
  have hk : Keep (fun k => v.ownBlock = some k) w w' := (Below.keep0 _ ((Below.refl _ _).alloc (Nat.le_refl _) o)).trans (Keep.grown hg (fun k hk => hk))
  refine h.set i hi hk (obRow_good ..) hown (fun k hk' => ?_)
  have e1 : g = k := by simpa [obRow, Value.ownBlock] using hk'
  subst e1
  rcases hor with e | e
  · exact Or.inl e
  · exact Or.inr (by omega)
/-- A block's cell that was there ahead of the call is of none of its own things. -/
theorem SepW.out (h : SepW W w os) (i : Nat) {o : Ob} (hi : os[i]? = some o) {k : Nat} (hk : k < W.heap.size) : ¬ o.foot k := fun hf => by
  have := h.sep.base o (List.mem_of_getElem? hi) k hf
  omega
end
/-- A slice's elements lie where cells are known. -/
theorem SlR.ownLt {w : World} {v : Value} {cs : List Value} (h : SlR w v cs) (hne : cs ≠ []) : ∀ k, v.ownBlock = some k → k < w.heap.size := by
  obtain ⟨ao, c, rfl, h1, h2, hx⟩ := h
  intro k hk
  cases cs with
  | nil => exact absurd rfl hne
  | cons u r =>
    obtain ⟨a, rfl, hc⟩ := hx 0 u rfl
    have := World.block_lt_of_cell? w _ hc
    rw [block_add] at this
    cases hk
    exact this
theorem SlR.keepE {S : Nat → Prop} {w w' : World} {v : Value} {cs : List Value} (hk : Keep S w w') (h : SlR w v cs) (ho : cs ≠ [] → Off S v) : SlR w' v cs := by
  by_cases he : cs = []
  · subst he
    obtain ⟨ao, c, hv, h1, h2, _⟩ := h
    exact ⟨ao, c, hv, h1, h2, by simp⟩
  · exact h.keep hk (ho he)
/-- What lay there ahead of the call lies off the call's own things. -/
theorem SepW.offArg {W w : World} {os : List Ob} (h : SepW W w os) (i : Nat) {o : Ob} (hi : os[i]? = some o) {v : Value} {cs : List Value} (hs : SlR W v cs) : cs ≠ [] → ∀ k, v.ownBlock = some k → ¬ o.foot k :=
  fun hne k hk => h.out i hi (hs.ownLt hne k hk)
end Go.Proofs.Ytjdjfhioobhcjaa
