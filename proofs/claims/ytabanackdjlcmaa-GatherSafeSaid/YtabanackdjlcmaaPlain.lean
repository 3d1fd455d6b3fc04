/-
  Plain laws of rows: no program in sight.
-/
import Derived.Test.YtabanackdjlcmaaVec2
namespace Go.Proofs.Ytabanackdjlcmaa

theorem cutI_snoc_zero (ys : List Int) : cutI (ys ++ [0]) = cutI ys := by simp [cutI]
theorem cutI_snoc (ys : List Int) (x : Int) (h : x ≠ 0) : cutI (ys ++ [x]) = ys ++ [x] := by simp [cutI, h]
theorem cutI_nil : cutI [] = [] := rfl
theorem cutI_pad (ys : List Int) : cutI ys ++ List.replicate (ys.length - (cutI ys).length) 0 = ys := by
  have h1 := List.takeWhile_append_dropWhile (p := fun x : Int => x == 0) (l := ys.reverse)
  have h2 : ys = cutI ys ++ (ys.reverse.takeWhile (· == 0)).reverse := by
    have := congrArg List.reverse h1
    rw [List.reverse_append, List.reverse_reverse] at this
    exact this.symm
  have h3 : (ys.reverse.takeWhile (· == 0)).reverse = List.replicate (ys.length - (cutI ys).length) 0 := by
    rw [List.eq_replicate_iff]
    refine ⟨?_, fun b hb => ?_⟩
    · have := congrArg List.length h2
      rw [List.length_append] at this
      omega
    · rw [List.mem_reverse] at hb
      have := List.all_takeWhile (p := fun x : Int => x == 0) (l := ys.reverse)
      rw [List.all_eq_true] at this
      simpa using this b hb
  rw [← h3]
  exact h2.symm
theorem cutI_len (ys : List Int) : (cutI ys).length ≤ ys.length := by
  have := congrArg List.length (cutI_pad ys)
  rw [List.length_append] at this
  omega
theorem atI_pad (xs : List Int) (n : Nat) (i : Int) : atI (xs ++ List.replicate n 0) i = atI xs i := by
  unfold atI
  split
  · simp only [List.getD, List.getElem?_append]
    split
    · rfl
    · rw [List.getElem?_eq_none (l := xs) (by omega), List.getElem?_replicate]
      split <;> rfl
  · rfl
theorem atI_cut (xs : List Int) (i : Int) : atI (cutI xs) i = atI xs i := by
  conv => rhs; rw [← cutI_pad xs]
  rw [atI_pad]
theorem atI_of_lt (xs : List Int) (i : Nat) (h : i < xs.length) : atI xs i = xs[i] := by simp [atI, h]
theorem atI_of_ge (xs : List Int) (i : Nat) (h : xs.length ≤ i) : atI xs i = 0 := by
  unfold atI
  rw [if_pos (by omega), Int.toNat_natCast, List.getD, List.getElem?_eq_none h]; rfl
theorem atI_comb (op : Int → Int → Int) (h0 : op 0 0 = 0) (a b : List Int) (i : Nat) : atI (combI op a b) i = op (atI a i) (atI b i) := by
  by_cases h : i < max a.length b.length
  · rw [atI_of_lt _ i (by rw [combI_length]; exact h)]; simp [combI]
  · rw [atI_of_ge _ i (by rw [combI_length]; omega), atI_of_ge a i (by omega), atI_of_ge b i (by omega), h0]
/-- What is made of all rows' numbers at one place. -/
def atFold (op : Int → Int → Int) (L : List (List Int)) (i : Nat) : Int :=
  match L with
  | [] => 0
  | v :: r => r.foldl (fun x row => op x (atI row i)) (atI v i)
theorem atI_fold (op : Int → Int → Int) (h0 : op 0 0 = 0) (L : List (List Int)) (i : Nat) : atI (foldI op L) i = atFold op L i := by
  cases L with
  | nil => rfl
  | cons v r =>
    simp only [foldI, atFold]
    induction r generalizing v with
    | nil => rfl
    | cons x r ih =>
      simp only [List.foldl_cons]
      rw [ih]
      rw [atI_comb op h0]
theorem atFold_take_succ (op : Int → Int → Int) (L : List (List Int)) (i k : Nat) (hk : 0 < k) (h : k < L.length) :
    atFold op (L.take (k + 1)) i = op (atFold op (L.take k) i) (atI L[k] i) := by
  cases L with
  | nil => simp at h
  | cons v r =>
    obtain ⟨k, rfl⟩ : ∃ k', k = k' + 1 := ⟨k - 1, by omega⟩
    have hk : k < r.length := by simpa using h
    simp only [List.take_succ_cons, atFold, List.getElem_cons_succ]
    rw [List.take_succ_eq_append_getElem hk, List.foldl_append]
    rfl
/-- How many numbers the longest of rows has. -/
def longI (L : List (List Int)) : Nat := L.foldl (fun n r => max n r.length) 0
theorem longI_take_succ (L : List (List Int)) (k : Nat) (h : k < L.length) : longI (L.take (k + 1)) = max (longI (L.take k)) L[k].length := by
  unfold longI; rw [List.take_succ_eq_append_getElem h, List.foldl_append]; rfl
theorem longI_le (L : List (List Int)) (n : Nat) (h : ∀ r ∈ L, r.length ≤ n) : longI L ≤ n := by
  unfold longI
  have : ∀ m, m ≤ n → L.foldl (fun n r => max n r.length) m ≤ n := by
    induction L with
    | nil => intro m hm; exact hm
    | cons v r ih =>
      intro m hm
      exact ih (fun x hx => h x (by simp [hx])) _ (Nat.max_le.2 ⟨hm, h v (by simp)⟩)
  exact this 0 (by omega)
theorem foldI_len (op : Int → Int → Int) (L : List (List Int)) : (foldI op L).length = longI L := by
  cases L with
  | nil => rfl
  | cons v r =>
    simp only [foldI, longI, List.foldl_cons, Nat.zero_max]
    induction r generalizing v with
    | nil => rfl
    | cons x r ih => simp only [List.foldl_cons]; rw [ih, combI_length]
theorem foldI_eq (op : Int → Int → Int) (h0 : op 0 0 = 0) (L : List (List Int)) : foldI op L = (List.range (longI L)).map (atFold op L) := by
  apply List.ext_getElem
  · simp [foldI_len]
  · intro i h1 h2
    rw [← atI_of_lt _ i h1, atI_fold op h0]; simp

/-- Numbers of 64 bits. -/
def U64 (xs : List Int) : Prop := ∀ x ∈ xs, 0 ≤ x ∧ x ≤ 18446744073709551615
theorem U64.at {xs : List Int} (h : U64 xs) (i : Int) : 0 ≤ atI xs i ∧ atI xs i ≤ 18446744073709551615 := by
  unfold atI
  split
  · rw [List.getD]
    cases hi : xs[i.toNat]? with
    | none => simp
    | some x => exact h x (List.mem_of_getElem? hi)
  · omega
def sumI (xs : List Int) : Int := xs.sum
theorem sumI_take_succ (xs : List Int) (k : Nat) (h : k < xs.length) : sumI (xs.take (k + 1)) = sumI (xs.take k) + xs[k] := by
  unfold sumI; rw [List.take_succ_eq_append_getElem h, List.sum_append]; simp
theorem sumI_nonneg (xs : List Int) (h : U64 xs) : 0 ≤ sumI xs := by
  induction xs with
  | nil => simp [sumI]
  | cons x r ih =>
    have h1 := ih (fun y hy => h y (by simp [hy]))
    have h2 := (h x (by simp)).1
    simp only [sumI, List.sum_cons] at *
    omega
theorem sumI_take_le (xs : List Int) (h : U64 xs) (k : Nat) : sumI (xs.take k) ≤ sumI xs := by
  have e : sumI xs = sumI (xs.take k) + sumI (xs.drop k) := by
    conv => lhs; rw [← List.take_append_drop k xs]
    exact List.sum_append
  have := sumI_nonneg (xs.drop k) (fun y hy => h y (List.mem_of_mem_drop hy))
  omega

end Go.Proofs.Ytabanackdjlcmaa
