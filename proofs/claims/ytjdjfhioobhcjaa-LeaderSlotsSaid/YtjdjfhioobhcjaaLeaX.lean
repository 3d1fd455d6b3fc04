/-
  Package leader: what its laws share: votes laid one by one, promises with votes of one's own.
-/
import Derived.Test.YtjdjfhioobhcjaaLeaW
import Derived.Test.YtjdjfhioobhcjaaFrame
namespace Go.Proofs.Ytjdjfhioobhcjaa
open Go.ChangeShapes Go.WideShapes Go.ChangeAt Go.RowKit Go.Maps
set_option maxRecDepth 100000

theorem Try.boolInfo : (Try.prog.info? 4).map (fun i => (i.zero, i.size, i.bytes)) = some (some (.bool false), 1, 1) := by kernel_rfl
theorem own_lit (w : World) (xs : List Value) (e : TypeId) (hl : xs.length ≤ 1000) : (w.alloc (.cells xs.toArray e)).ownsRow w.heap.size e 1 (.slice (some ⟨w.heap.size, 0, none⟩) xs.length xs.length) xs.length xs :=
  ⟨by simp, Or.inr ⟨w.heap.size, xs.length, xs.toArray, rfl, Nat.le_refl _, heap_alloc_new w _, Nat.le_refl _, by unfold maxLen; omega, by simp, by simp⟩⟩
section
variable {W w w' : World} {os : List Ob}
theorem SepW.litRow (h : SepW W w os) (xs : List Value) (e : TypeId) (hl : xs.length ≤ 1000) : SepW W (w.alloc (.cells xs.toArray e)) (obRow (.slice (some ⟨w.heap.size, 0, none⟩) xs.length xs.length) e 1 xs.length xs :: os) :=
  h.newRow (own_lit w xs e hl) (below_lit w _)
theorem SepW.vtsNil (h : SepW W w os) (e : TypeId) : SepW W w (obVts (.slice none 0 0) e [] [] :: os) :=
  h.new (Below.refl _ _) (obVts_good ..) ⟨World.ownsRow_nil _ _ _ _, VtC.nil _, by intro u hu; cases hu⟩ (fun k hk => by
    rcases hk with hk | ⟨u, hu, _⟩
    · cases hk
    · cases hu)
theorem SepW.vtHeld (h : SepW W w os) (i j : Nat) (hij : i ≠ j) {p v : Value} {D : Nat → Prop} {N : Nat} {A : LS} {e : TypeId} {vs : List Value} {hs : List Vt} (hi : os[i]? = some (obLea p D N A)) (hj : os[j]? = some (obVts v e vs hs)) : ∀ w', Keep D w w' → VtL w' v hs := by
  intro w' hk
  have h1 := (obVts_good v e vs hs).keep (h.get j hj : (obVts v e vs hs).inv w) hk (fun k hd => h.sep.two hij hi hj k hd)
  exact VtL.of_own h1.1 h1.2.1
/-- A vote laid with its bytes joins the row. -/
theorem SepW.vtApp (h : SepW W w os) (i j : Nat) (hij : i ≠ j) {v lv : Value} {e eu : TypeId} {vs : List Value} {hs : List Vt} {n g cap : Nat} {s : Vt} {o : Obj} (hi : os[i]? = some (obVts v e vs hs)) (hj : os[j]? = some (obRow lv eu 1 n (u8s s.val)))
    (hg : (w.alloc o).grownBy w' v.ownBlock) (hor : v.ownBlock = some g ∨ g = w.heap.size + 1)
    (hown : w'.ownsRow 0 e 3 (.slice (some ⟨g, 0, none⟩) (hs.length + 1) cap) (hs.length + 1) (vs ++ [.int .u64 s.slot, .int .u64 s.ballot, lv])) :
    ∃ l, ((os.eraseIdx i)[if i < j then j - 1 else j]? = some (obRow lv eu 1 n (u8s s.val))) ∧ l = (os.eraseIdx i).eraseIdx (if i < j then j - 1 else j) ∧
    SepW W w' (obVts (.slice (some ⟨g, 0, none⟩) (hs.length + 1) cap) e (vs ++ [.int .u64 s.slot, .int .u64 s.ballot, lv]) (hs ++ [s]) :: l) := by
  have hj' : (os.eraseIdx i)[if i < j then j - 1 else j]? = some (obRow lv eu 1 n (u8s s.val)) := by
    rw [List.getElem?_eraseIdx]
    by_cases hlt : i < j
    · rw [if_pos hlt, if_neg (by omega), show j - 1 + 1 = j by omega]; exact hj
    · rw [if_neg hlt, if_pos (by omega)]; exact hj
  have hs1 := (h.sep.front i hi).perm (List.Perm.cons _ (front_perm hj'))
  obtain ⟨hA, hk⟩ := hs1.vtApp hg hor hown
  exact ⟨_, hj', rfl, hA, h.sep.belowAt h.below i hi (hk.mono (fun k _ e => Or.inl e))⟩
end
end Go.Proofs.Ytjdjfhioobhcjaa
