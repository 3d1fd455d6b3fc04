/-
  What two cuts of bytes come to (plain).
-/
import Derived.Test.YtabanackdjlcmaaFoldV
import Derived.Test.YtabanackdjlcmaaSep
namespace Go.Proofs.Ytabanackdjlcmaa
open Go.ChangeShapes Go.WideShapes Go.ChangeAt Go.RowKit Go.Maps
set_option maxRecDepth 100000

/-- A byte's two lowest bits. -/
def nB (xs : List Int) (i : Nat) : Int := (xs.getD i 0) % 4
theorem nB_le (xs : List Int) (i : Nat) : 0 ≤ nB xs i ∧ nB xs i ≤ 3 := by unfold nB; omega
/-- What the k-th cut adds, and how long each segment is ahead of it. -/
def nK (a b : List Int) (k i : Nat) : Int := if k = 0 then nB a i else nB b i
def tK (a b : List Int) (k i : Nat) : Int := (if 0 < k then nB a i else 0) + (if 1 < k then nB b i else 0)
theorem nK_le (a b : List Int) (k i : Nat) : 0 ≤ nK a b k i ∧ nK a b k i ≤ 3 := by unfold nK; split <;> exact nB_le _ _
theorem tK_le (a b : List Int) (k i : Nat) : 0 ≤ tK a b k i ∧ tK a b k i ≤ 6 := by
  have h1 := nB_le a i
  have h2 := nB_le b i
  unfold tK; split <;> split <;> omega
theorem tK_succ (a b : List Int) {k : Nat} (hk : k < 2) (i : Nat) : tK a b (k + 1) i = tK a b k i + nK a b k i := by
  unfold tK nK
  match k, hk with
  | 0, _ => simp
  | 1, _ => simp
/-- The array of lengths behind j places of the k-th cut. -/
def aL (a b : List Int) (k j : Nat) : List Int := (List.range 8).map fun i => tK a b k i + if i < j then nK a b k i else 0
theorem aL_len (a b : List Int) (k j : Nat) : (aL a b k j).length = 8 := by simp [aL]
theorem aL_at (a b : List Int) (k j i : Nat) (hi : i < 8) : (aL a b k j)[i]? = some (tK a b k i + if i < j then nK a b k i else 0) := by
  unfold aL
  rw [List.getElem?_map, List.getElem?_range hi]; rfl
theorem aL_set (a b : List Int) (k j : Nat) (hj : j < 8) : (u64s (aL a b k j)).toArray.setIfInBounds j (.int .u64 (tK a b k j + nK a b k j)) = (u64s (aL a b k (j + 1))).toArray := by
  rw [List.setIfInBounds_toArray]
  congr 1
  apply List.ext_getElem?
  intro i
  rw [List.getElem?_set]
  simp only [List.length_map, aL_len, List.getElem?_map]
  by_cases e : j = i
  · subst e
    rw [if_pos rfl, if_pos hj, aL_at _ _ _ _ _ hj, if_pos (by omega)]; rfl
  · rw [if_neg e]
    by_cases hi : i < 8
    · rw [aL_at _ _ _ _ _ hi, aL_at _ _ _ _ _ hi]
      by_cases h : i < j
      · rw [if_pos h, if_pos (by omega)]
      · rw [if_neg h, if_neg (by omega)]
    · have h1 : (aL a b k j)[i]? = none := List.getElem?_eq_none (by rw [aL_len]; omega)
      have h2 : (aL a b k (j + 1))[i]? = none := List.getElem?_eq_none (by rw [aL_len]; omega)
      rw [h1, h2]
theorem aL_next (a b : List Int) {k : Nat} (hk : k < 2) : aL a b k 8 = aL a b (k + 1) 0 := by
  unfold aL
  refine List.map_congr_left fun i hi => ?_
  rw [if_pos (List.mem_range.1 hi), if_neg (by omega), tK_succ a b hk]; omega
/-- The spans that are to come, their positions not told. -/
def wS (a b : List Int) (k i : Nat) : List Sp := if 0 < nK a b k i then [⟨0, 3 * ((i / 4 : Nat) : Int), ((i % 4 : Nat) : Int), tK a b k i, nK a b k i⟩] else []
def wL (a b : List Int) (k j : Nat) : List Sp := (List.range j).flatMap (wS a b k)
theorem wL_succ (a b : List Int) (k j : Nat) : wL a b k (j + 1) = wL a b k j ++ wS a b k j := by simp [wL, List.range_succ]
theorem wL_sum (a b : List Int) (k j : Nat) : sumI (manyOf (wL a b k (j + 1))) = sumI (manyOf (wL a b k j)) + nK a b k j := by
  have h := nK_le a b k j
  rw [wL_succ, manyOf_app, sumI_app]
  unfold wS
  by_cases h0 : 0 < nK a b k j
  · rw [if_pos h0]; simp [manyOf, sumI]
  · rw [if_neg h0]; simp [manyOf, sumI]; omega
theorem wL_le (a b : List Int) (k j : Nat) : 0 ≤ sumI (manyOf (wL a b k j)) ∧ sumI (manyOf (wL a b k j)) ≤ 3 * j ∧ (wL a b k j).length ≤ j := by
  induction j with
  | zero => simp [wL, manyOf, sumI]
  | succ j ih =>
    have h := nK_le a b k j
    rw [wL_sum]
    have hl : (wL a b k (j + 1)).length ≤ j + 1 := by
      rw [wL_succ, List.length_append]
      have : (wS a b k j).length ≤ 1 := by unfold wS; split <;> simp
      omega
    exact ⟨by omega, by omega, hl⟩
/-- A shard's row of the k-th cut, up to a segment; whole; all rows. -/
def rK (a b : List Int) (k h g : Nat) : List Int := (List.range g).map fun g => tK a b (k + 1) (4 * h + g)
theorem rK_succ (a b : List Int) (k h g : Nat) : rK a b k h (g + 1) = rK a b k h g ++ [tK a b (k + 1) (4 * h + g)] := by simp [rK, List.range_succ]
theorem rK_len (a b : List Int) (k h g : Nat) : (rK a b k h g).length = g := by simp [rK]
theorem rK_u64 (a b : List Int) (k h g : Nat) : U64 (rK a b k h g) := by
  intro x hx
  unfold rK at hx
  simp at hx
  obtain ⟨i, _, rfl⟩ := hx
  have := tK_le a b (k + 1) (4 * h + i); omega
def rowsK (a b : List Int) (k h : Nat) : Rw := (List.range h).map fun (h : Nat) => (3 * (h : Int), cutI (rK a b k h 4))
theorem rowsK_succ (a b : List Int) (k h : Nat) : rowsK a b k (h + 1) = rowsK a b k h ++ [(3 * (h : Int), cutI (rK a b k h 4))] := by simp [rowsK, List.range_succ]
theorem rowsK_len (a b : List Int) (k h : Nat) : (rowsK a b k h).length = h := by simp [rowsK]
theorem rowsK_two (a b : List Int) (k : Nat) : rowsK a b k 2 = [(0, cutI (rK a b k 0 4)), (3, cutI (rK a b k 1 4))] := rfl
theorem dropWhile_twice (p : Int → Bool) (l : List Int) : (l.dropWhile p).dropWhile p = l.dropWhile p := by
  induction l with
  | nil => rfl
  | cons x r ih =>
    by_cases h : p x = true
    · rw [List.dropWhile_cons_of_pos h]; exact ih
    · rw [List.dropWhile_cons_of_neg h, List.dropWhile_cons_of_neg h]
theorem cutI_cutI (xs : List Int) : cutI (cutI xs) = cutI xs := by
  unfold cutI
  rw [List.reverse_reverse, dropWhile_twice]
theorem rowsK_ok (a b : List Int) (k : Nat) : rowsB (rowsK a b k 2) = true := by
  have hl : ∀ h, (cutI (rK a b k h 4)).length ≤ 4 := fun h => by have := cutI_len (rK a b k h 4); rw [rK_len] at this; exact this
  have hc : ∀ xs : List Int, cutI (cutI xs) = cutI xs := cutI_cutI
  refine rowsB_true (fun i hi => ?_)
  rw [rowsK_two] at *
  unfold rowOkAt
  match i, hi with
  | 0, _ => simp [hl 0, hc]
  | 1, _ => simp [hl 1, hc]
/-- How a state stands ahead of the k-th cut. -/
structure CutsF (a b : List Int) (k : Nat) (F : FS) : Prop where
  s0 : F.sh 0 = some ⟨0, 4, cutI ((List.range 4).map fun g => tK a b k g), false⟩
  s3 : F.sh 3 = some ⟨3, 4, cutI ((List.range 4).map fun g => tK a b k (4 + g)), false⟩
  n : 0 ≤ F.n ∧ F.n ≤ 24 * k
  l : F.l.length ≤ 8 * k
theorem newSp_cut {old new : List Int} (id : Int) (ho : ∀ i : Nat, 0 ≤ atI old i) : newSp (cutI old) id (cutI new) (cutI new).length = newSp old id new new.length := by
  have e : ∀ m : Nat, newSp (cutI old) id (cutI new) m = newSp old id new m := fun m => by
    unfold newSp
    simp only [atI_cut]
  rw [e]
  obtain ⟨d, hd⟩ : ∃ d, new.length = (cutI new).length + d := ⟨new.length - (cutI new).length, by have := cutI_len new; omega⟩
  rw [hd]
  clear hd
  induction d with
  | zero => rfl
  | succ d ih =>
    rw [← Nat.add_assoc, newSp_succ, ← ih]
    have h0 : atI new (((cutI new).length + d : Nat) : Int) = 0 := by
      rw [← atI_cut]
      unfold atI
      rw [if_pos (by omega), Int.toNat_natCast, List.getD_eq_getElem?_getD, List.getElem?_eq_none (by omega)]
      rfl
    rw [h0, if_neg (by have := ho ((cutI new).length + d); omega), List.append_nil]
theorem range4 (f : Nat → Int) (i : Nat) : atI ((List.range 4).map f) i = if i < 4 then f i else 0 := by
  unfold atI
  rw [if_pos (by omega), List.getD_eq_getElem?_getD]
  simp only [Int.toNat_natCast, List.getElem?_map]
  by_cases h : i < 4
  · rw [List.getElem?_range h, if_pos h]; rfl
  · rw [List.getElem?_eq_none (by simp; omega), if_neg h]; rfl
theorem newSp_four (a b : List Int) {k : Nat} (hk : k < 2) (h : Nat) (id : Int) (hid : id = 3 * (h : Int)) :
    newSp ((List.range 4).map fun g => tK a b k (4 * h + g)) id ((List.range 4).map fun g => tK a b (k + 1) (4 * h + g)) 4 = (List.range 4).flatMap fun g => wS a b k (4 * h + g) := by
  subst hid
  unfold newSp
  have key : ∀ i : Nat, i < 4 → (if atI ((List.range 4).map fun g => tK a b k (4 * h + g)) (i : Int) < atI ((List.range 4).map fun g => tK a b (k + 1) (4 * h + g)) (i : Int) then [(⟨0, 3 * (h : Int), (i : Int), atI ((List.range 4).map fun g => tK a b k (4 * h + g)) (i : Int), atI ((List.range 4).map fun g => tK a b (k + 1) (4 * h + g)) (i : Int) - atI ((List.range 4).map fun g => tK a b k (4 * h + g)) (i : Int)⟩ : Sp)] else []) = wS a b k (4 * h + i) := by
    intro i hi
    rw [range4, range4, if_pos hi, if_pos hi, tK_succ a b hk]
    unfold wS
    have e1 : (4 * h + i) / 4 = h := by omega
    have e2 : (4 * h + i) % 4 = i := by omega
    rw [e1, e2]
    by_cases hp : 0 < nK a b k (4 * h + i)
    · rw [if_pos (by omega), if_pos hp]
      congr 2; omega
    · rw [if_neg (by omega), if_neg hp]
  have hr : List.range 4 = [0, 1, 2, 3] := by decide
  have k0 := key 0 (by omega)
  have k1 := key 1 (by omega)
  have k2 := key 2 (by omega)
  have k3 := key 3 (by omega)
  rw [hr] at k0 k1 k2 k3 ⊢
  simp only [List.flatMap_cons, List.flatMap_nil]
  rw [k0, k1, k2, k3]
theorem wL_eight (a b : List Int) (k : Nat) : wL a b k 8 = ((List.range 4).flatMap fun g => wS a b k (4 * 0 + g)) ++ ((List.range 4).flatMap fun g => wS a b k (4 * 1 + g)) := by
  have h8 : List.range 8 = [0, 1, 2, 3, 4, 5, 6, 7] := by decide
  have h4 : List.range 4 = [0, 1, 2, 3] := by decide
  unfold wL
  rw [h8, h4]
  simp
/-- A cut of bytes goes through, and gives just those spans. -/
theorem cuts_go {a b : List Int} {k : Nat} {F : FS} (hk : k < 2) (h : CutsF a b k F) : cutE F (rowsK a b k 2) = 0 ∧ rowsSp F (rowsK a b k 2) = wL a b k 8 ∧ CutsF a b (k + 1) (cutF F (rowsK a b k 2)) := by
  have hsp : rowsSp F (rowsK a b k 2) = wL a b k 8 := by
    rw [rowsK_two, wL_eight]
    have e : rowsSp F [(0, cutI (rK a b k 0 4)), (3, cutI (rK a b k 1 4))] = rowSp F (0, cutI (rK a b k 0 4)) ++ rowSp F (3, cutI (rK a b k 1 4)) := by simp [rowsSp]
    rw [e]
    congr 1
    · unfold rowSp lensOf
      simp only
      rw [h.s0]
      simp only
      rw [newSp_cut _ (fun i => by rw [range4]; split; exact (tK_le a b k i).1; omega), rK_len]
      have := newSp_four a b hk 0 0 (by simp)
      simp only [Nat.mul_zero, Nat.zero_add] at this ⊢
      unfold rK
      simp only [Nat.mul_zero, Nat.zero_add]
      exact this
    · unfold rowSp lensOf
      simp only
      rw [h.s3]
      simp only
      rw [newSp_cut _ (fun i => by rw [range4]; split; exact (tK_le a b k _).1; omega), rK_len]
      exact newSp_four a b hk 1 3 (by simp)
  have hrow : ∀ (id : Int) (hh : Nat) (f : Nat → Int), F.sh id = some ⟨id, 4, cutI ((List.range 4).map f), false⟩ → (∀ g, g < 4 → f g ≤ tK a b (k + 1) (4 * hh + g)) → rowE F (id, cutI (rK a b k hh 4)) = 0 := by
    intro id hh f hs hf
    have hle : leB (cutI ((List.range 4).map f)) (cutI (rK a b k hh 4)) = true := le_iff.2 (fun i => by
      rw [atI_cut, atI_cut]
      unfold rK
      rw [range4, range4]
      by_cases hi : i < 4
      · rw [if_pos hi, if_pos hi]; exact hf i hi
      · rw [if_neg hi, if_neg hi]; omega)
    have hl := cutI_len (rK a b k hh 4)
    rw [rK_len] at hl
    unfold rowE
    simp only
    rw [hs]
    simp only
    rw [if_neg (by decide), if_neg (by rw [hle]; simp; omega)]
  have h0 := hrow 0 0 _ h.s0 (fun g _ => by have := nK_le a b k g; have := tK_succ a b hk g; simp only [Nat.mul_zero, Nat.zero_add]; omega)
  have h3 := hrow 3 1 _ h.s3 (fun g _ => by have := nK_le a b k (4 + g); have := tK_succ a b hk (4 + g); simp only [Nat.mul_one]; omega)
  have hw := wL_le a b k 8
  have hn := h.n
  have hE : cutE F (rowsK a b k 2) = 0 := by
    unfold cutE
    rw [hsp]
    have : rowsE F (rowsK a b k 2) = 0 := by rw [rowsK_two]; simp [rowsE, h0, h3]
    rw [this, if_pos rfl]
    unfold sumE
    rw [if_pos (by rw [sumI_cons]; omega)]
  refine ⟨hE, hsp, ?_, ?_, ?_, ?_⟩
  · show lenS F (rowsK a b k 2) 0 = _
    unfold lenS
    rw [rowsK_two]
    simp [h.s0, rK, cutI_cutI]
  · show lenS F (rowsK a b k 2) 3 = _
    unfold lenS
    rw [rowsK_two]
    simp [h.s3, rK, cutI_cutI]
  · show 0 ≤ F.n + sumI (manyOf (rowsSp F (rowsK a b k 2))) ∧ F.n + sumI (manyOf (rowsSp F (rowsK a b k 2))) ≤ _
    rw [hsp]; omega
  · show (F.l ++ posSp F.n (rowsSp F (rowsK a b k 2))).length ≤ _
    rw [hsp, List.length_append, posSp_len]
    have := h.l; omega
theorem cuts_first (a b : List Int) : CutsF a b 0 (addR (addR emptyFS 0 4) 3 4) := ⟨rfl, rfl, by show (0 : Int) ≤ 0 ∧ (0 : Int) ≤ _; omega, Nat.zero_le _⟩
end Go.Proofs.Ytabanackdjlcmaa
