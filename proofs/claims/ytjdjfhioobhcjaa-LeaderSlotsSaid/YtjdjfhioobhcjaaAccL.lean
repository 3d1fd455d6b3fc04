/-
  Arrays of the call's own, told by a function; small things for the laws of package acceptor.
-/
import Derived.Test.YtjdjfhioobhcjaaAcc8
import Derived.Laws.BitsLemmas
import Derived.Deep.OwnRows
namespace Go.Proofs.Ytjdjfhioobhcjaa
open Go.ChangeShapes Go.WideShapes Go.ChangeAt Go.RowKit Go.Maps
set_option maxRecDepth 100000

/-- A block of M cells, told by a function. -/
def obArr (LB M : Nat) (e : TypeId) (g : Nat → Value) : Ob := obBlk LB (.cells ((List.range M).map g).toArray e)
theorem obArr_good (LB M : Nat) (e : TypeId) (g : Nat → Value) : (obArr LB M e g).Good := obBlk_good ..
theorem arr_made (z : Value) (M : Nat) : madeCells #[z] M = ((List.range M).map fun _ => z).toArray := by
  apply Array.ext
  · simp [madeCells]
  · intro i h1 h2
    simp [madeCells, Nat.mod_one]
theorem arr_set (g : Nat → Value) {M j : Nat} (hj : j < M) (v : Value) : ((List.range M).map g).toArray.setIfInBounds j v = ((List.range M).map (fun i => if i = j then v else g i)).toArray := by
  rw [List.setIfInBounds_toArray]
  congr 1
  apply List.ext_getElem?
  intro i
  rw [List.getElem?_set]
  simp only [List.length_map, List.length_range, List.getElem?_map]
  by_cases e : j = i
  · subst e
    rw [if_pos rfl, if_pos hj, List.getElem?_range hj]; simp
  · rw [if_neg e]
    by_cases hi : i < M
    · rw [List.getElem?_range hi]; simp [Ne.symm e]
    · rw [List.getElem?_eq_none (by simpa using hi)]; rfl
section
variable {W w : World} {os : List Ob} {LB M : Nat} {e : TypeId} {g : Nat → Value}
theorem SepW.arrCell (h : SepW W w os) (i : Nat) (hi : os[i]? = some (obArr LB M e g)) {j : Nat} (hj : j < M) : w.cell? ⟨LB, j, none⟩ = some (g j) ∧ w.frozen? ⟨LB, j, none⟩ = false := by
  have hb : w.heap[LB]? = some (.cells ((List.range M).map g).toArray e (0, 0)) := h.get i hi
  refine ⟨by simp [World.cell?, hb, hj], by simp [World.frozen?, hb]⟩
theorem SepW.arrSet (h : SepW W w os) (i : Nat) (hi : os[i]? = some (obArr LB M e g)) {j : Nat} (hj : j < M) (v : Value) : SepW W (w.setCell ⟨LB, j, none⟩ v) (os.set i (obArr LB M e (fun i => if i = j then v else g i))) := by
  have hb : w.heap[LB]? = some (.cells ((List.range M).map g).toArray e (0, 0)) := h.get i hi
  refine h.set i hi (Keep.setCell (S := fun q => q = LB) (Keep.refl _ _) (p := ⟨LB, j, none⟩) (Or.inl rfl) v) (obArr_good ..) ?_ (fun k hk => Or.inl hk)
  have hh := heap_setCell_same w LB j _ _ v hb
  rw [arr_set g hj] at hh
  exact hh
theorem SepW.arrMade (h : SepW W w os) (z : Value) (e : TypeId) (M : Nat) : SepW W (w.alloc (.cells (madeCells #[z] M) e)) (obArr w.heap.size M e (fun _ => z) :: os) :=
  h.new ((Below.refl _ _).alloc (Nat.le_refl _) _) (obArr_good ..) (by show (w.alloc (.cells (madeCells #[z] M) e)).heap[w.heap.size]? = _; rw [arr_made]; exact heap_alloc_new w _) (fun k hk => by rw [show k = w.heap.size from hk]; exact Nat.le_refl _)
/-- What an array's function comes to. -/
theorem obArr_congr {g' : Nat → Value} (h : ∀ i, i < M → g i = g' i) : obArr LB M e g = obArr LB M e g' := by
  unfold obArr
  have : (List.range M).map g = (List.range M).map g' := List.map_congr_left fun i hi => h i (List.mem_range.1 hi)
  rw [this]
end
/-- A slice typed out of one byte. -/
theorem slr_one (w : World) (x : Int) (fr : Nat × Nat) : SlR (w.alloc (.cells #[.int .u8 x] 5 fr)) (.slice (some ⟨w.heap.size, 0, none⟩) 1 1) (u8s [x]) := lit_u8 w [x] _ _ (by simp)
theorem and15 {z : Int} (h : 0 ≤ z ∧ z ≤ 255) : bits BinOp.and IntKind.u8 z 15 = z % 16 := bits_mask .u8 8 (by decide) wraps_u8 4 (by decide) z h.1 (by omega)
theorem and31 {z : Int} (h : 0 ≤ z ∧ z ≤ 255) : bits BinOp.and IntKind.u8 z 31 = z % 32 := bits_mask .u8 8 (by decide) wraps_u8 5 (by decide) z h.1 (by omega)
/-- Is a number among the first remainders? -/
def hasF (xs : List Int) (i : Nat) (a : Int) : Bool := ((xs.take i).map (· % 16)).contains a
theorem hasF_zero (xs : List Int) (a : Int) : hasF xs 0 a = false := rfl
theorem hasF_succ {xs : List Int} {i : Nat} {x : Int} (h : xs[i]? = some x) (a : Int) : hasF xs (i + 1) a = (hasF xs i a || a == x % 16) := by
  obtain ⟨h1, h2⟩ := List.getElem?_eq_some_iff.1 h
  unfold hasF
  rw [List.take_succ_eq_append_getElem h1, h2, List.map_append]
  rw [Bool.eq_iff_iff]
  simp
theorem hasF_le {xs : List Int} {i : Nat} {a : Int} (h : hasF xs i a = true) : 0 ≤ a ∧ a < 16 := by
  unfold hasF at h
  obtain ⟨x, _, rfl⟩ := List.mem_map.1 (List.contains_iff_mem.1 h)
  omega
end Go.Proofs.Ytjdjfhioobhcjaa
