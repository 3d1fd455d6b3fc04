/-
  Plain laws of rows: how they stand, least and greatest, sums.
-/
import Derived.Test.YtabanackdjlcmaaPlain
import Derived.Test.YtabanackdjlcmaaLib5
namespace Go.Proofs.Ytabanackdjlcmaa

theorem le_iff {a b : List Int} : leB a b = true ↔ ∀ i : Nat, atI a i ≤ atI b i := by
  unfold leB allB
  simp only [decide_eq_true_eq]
  constructor
  · intro h i
    by_cases hi : i < max a.length b.length
    · exact h i hi
    · rw [atI_of_ge a i (by omega), atI_of_ge b i (by omega)]; exact Int.le_refl 0
  · intro h i _; exact h i
theorem same_iff {a b : List Int} : sameB a b = true ↔ ∀ i : Nat, atI a i = atI b i := by
  unfold sameB allB
  simp only [decide_eq_true_eq, beq_iff_eq]
  constructor
  · intro h i
    by_cases hi : i < max a.length b.length
    · exact h i hi
    · rw [atI_of_ge a i (by omega), atI_of_ge b i (by omega)]
  · intro h i _; exact h i
theorem atI_minI (L : List (List Int)) (i : Nat) : atI (minI L) i = atFold min L i := by unfold minI; rw [atI_cut, atI_fold min (by rfl)]
theorem atI_maxI (L : List (List Int)) (i : Nat) : atI (maxI L) i = atFold max L i := by unfold maxI; rw [atI_cut, atI_fold max (by rfl)]
theorem atI_min2 (a b : List Int) (i : Nat) : atI (minI [a, b]) i = min (atI a i) (atI b i) := atI_minI _ _
theorem atI_max2 (a b : List Int) (i : Nat) : atI (maxI [a, b]) i = max (atI a i) (atI b i) := atI_maxI _ _
theorem minI_len (L : List (List Int)) (n : Nat) (h : ∀ r ∈ L, r.length ≤ n) : (minI L).length ≤ n := Nat.le_trans (cutI_len _) (foldI_length _ _ _ h)
theorem maxI_len (L : List (List Int)) (n : Nat) (h : ∀ r ∈ L, r.length ≤ n) : (maxI L).length ≤ n := Nat.le_trans (cutI_len _) (foldI_length _ _ _ h)
theorem le_min2 (a b c : List Int) : leB c (minI [a, b]) = (leB c a && leB c b) := by
  rw [Bool.eq_iff_iff, Bool.and_eq_true, le_iff, le_iff, le_iff]
  constructor
  · intro h
    exact ⟨fun i => by have := h i; rw [atI_min2] at this; omega, fun i => by have := h i; rw [atI_min2] at this; omega⟩
  · rintro ⟨h1, h2⟩ i
    have := h1 i; have := h2 i; rw [atI_min2]; omega
theorem max2_le (a b c : List Int) : leB (maxI [a, b]) c = (leB a c && leB b c) := by
  rw [Bool.eq_iff_iff, Bool.and_eq_true, le_iff, le_iff, le_iff]
  constructor
  · intro h
    exact ⟨fun i => by have := h i; rw [atI_max2] at this; omega, fun i => by have := h i; rw [atI_max2] at this; omega⟩
  · rintro ⟨h1, h2⟩ i
    have := h1 i; have := h2 i; rw [atI_max2]; omega
theorem min2_le_l (a b : List Int) : leB (minI [a, b]) a = true := le_iff.2 fun i => by rw [atI_min2]; omega
theorem min2_le_r (a b : List Int) : leB (minI [a, b]) b = true := le_iff.2 fun i => by rw [atI_min2]; omega
theorem le_max2_l (a b : List Int) : leB a (maxI [a, b]) = true := le_iff.2 fun i => by rw [atI_max2]; omega
theorem le_max2_r (a b : List Int) : leB b (maxI [a, b]) = true := le_iff.2 fun i => by rw [atI_max2]; omega
theorem le_tr {a b c : List Int} (h : leB a b = true) (k : leB b c = true) : leB a c = true := by
  rw [le_iff] at *
  intro i; have := h i; have := k i; omega
theorem sameB_eq (a b : List Int) : sameB a b = (leB a b && leB b a) := by
  rw [Bool.eq_iff_iff, Bool.and_eq_true, same_iff, le_iff, le_iff]
  constructor
  · intro h; exact ⟨fun i => by have := h i; omega, fun i => by have := h i; omega⟩
  · rintro ⟨h1, h2⟩ i; have := h1 i; have := h2 i; omega
theorem u64_of_wf {xs : List Int} (h : ∀ x ∈ xs, (Lit.int .u64 x).wf = true) : U64 xs := fun x hx => by
  have := h x hx
  simp [Lit.wf, IntKind.min, IntKind.max, IntKind.signed, IntKind.bits] at this
  omega
theorem cutI_mem {xs : List Int} {x : Int} (h : x ∈ cutI xs) : x ∈ xs := by
  rw [← cutI_pad xs]; simp [h]
theorem foldI_at_mem (op : Int → Int → Int) (L : List (List Int)) (n : Int) (hop : ∀ x y, 0 ≤ x → x ≤ n → 0 ≤ y → y ≤ n → 0 ≤ op x y ∧ op x y ≤ n) (hn : 0 ≤ n)
    (h : ∀ r ∈ L, ∀ i : Nat, 0 ≤ atI r i ∧ atI r i ≤ n) (i : Nat) : 0 ≤ atFold op L i ∧ atFold op L i ≤ n := by
  cases L with
  | nil => simp [atFold, hn]
  | cons v r =>
    simp only [atFold]
    have hv := h v (by simp) i
    have hr : ∀ x ∈ r, ∀ i : Nat, 0 ≤ atI x i ∧ atI x i ≤ n := fun x hx => h x (by simp [hx])
    clear h
    generalize atI v i = z at *
    induction r generalizing z with
    | nil => simpa using hv
    | cons x r ih => exact ih (fun y hy => hr y (by simp [hy])) _ (hop _ _ hv.1 hv.2 (hr x (by simp) i).1 (hr x (by simp) i).2)
/-- Sums by places. -/
theorem sum_at (xs : List Int) (N : Nat) (h : xs.length ≤ N) : sumI xs = ((List.range N).map fun i : Nat => atI xs i).sum := by
  have e : (List.range N).map (fun i : Nat => atI xs i) = xs ++ List.replicate (N - xs.length) 0 := by
    apply List.ext_getElem
    · simp; omega
    · intro i h1 h2
      simp only [List.getElem_map, List.getElem_range]
      rw [pad_get]
  rw [e, List.sum_append]
  simp [sumI]
theorem sum_add (f g : Nat → Int) (l : List Nat) : (l.map fun i => f i + g i).sum = (l.map f).sum + (l.map g).sum := by
  induction l with
  | nil => rfl
  | cons x l ih => simp only [List.map_cons, List.sum_cons, ih]; omega
theorem sum_le (f : Nat → Int) (n : Int) (l : List Nat) (h : ∀ i ∈ l, f i ≤ n) : (l.map f).sum ≤ l.length * n := by
  induction l with
  | nil => simp
  | cons x l ih =>
    have h1 := ih (fun i hi => h i (by simp [hi]))
    have h2 := h x (by simp)
    simp only [List.map_cons, List.sum_cons, List.length_cons]
    rw [show ((l.length + 1 : Nat) : Int) * n = l.length * n + n by push_cast; rw [Int.add_mul]; omega]
    omega

/-- A slice of slices of numbers among the arguments. -/
theorem arg_rows {H : Type} {enc : TypeId × Value → H} {P : Program} {W : World} {t e q : TypeId} {v : Value} {d : DataW H} {ps : List MemPlace} {r : Reach} {b0 : Nat}
    (ht : P.underlying t = some (.slice e)) (he : P.underlying e = some (.slice q)) (hq : P.underlying q = some (.int .u64)) (ce : P.cellsOf e = 1) (cq : P.cellsOf q = 1) (hval : Value.okWide P W r b0 t v)
    (h : DataW.Trod enc P W 0 (fun _ => true) true t v d ps) : ∃ L : List (List Int), RowsR W v L ∧ ∀ r ∈ L, U64 r := by
  obtain ⟨a0, len0, cap0, rfl⟩ := WideShapes.okWide_slice ht hval
  obtain ⟨fuel, hf⟩ := h
  rcases Deep.open_int_rows ht he hq ce cq hf with ⟨hcs, _⟩ | ⟨a, len, cap, A, Ln, C, Z, hcs, _, hl, hm, _, hr⟩
  · simp [Value.cells] at hcs
    obtain ⟨rfl, rfl, rfl⟩ := hcs
    exact ⟨[], ⟨none, 0, rfl, Nat.le_refl _, Nat.zero_le _, by simp⟩, by simp⟩
  · simp [Value.cells] at hcs
    obtain ⟨rfl, rfl, rfl⟩ := hcs
    refine ⟨(List.range len0).map fun r => (Z r).take (Ln r), ⟨some a, cap0, by simp, by simpa using hl, hm, fun i r hi => ?_⟩, fun r hi => ?_⟩
    · have hi2 : i < len0 := by have := (List.getElem?_eq_some_iff.1 hi).1; simpa using this
      simp [hi2] at hi
      subst hi
      obtain ⟨h1, h2, h3, h4, h5, h6, h7⟩ := hr i (by omega)
      refine ⟨a, _, rfl, h1, ?_⟩
      cases hA : A i with
      | none =>
        have hC := h6 hA
        have hZ : Z i = [] := List.eq_nil_of_length_eq_zero (by omega)
        have hL : Ln i = 0 := by omega
        rw [hZ, hL, hC]
        exact SlR.nil W
      | some a' => exact SlR.of_cells h2 h3 h4 (fun c hc => (h7 a' hA).2 c (by omega))
    · obtain ⟨j, hj, rfl⟩ := List.mem_map.1 hi
      exact u64_of_wf fun x hx => (hr j (by have := List.mem_range.1 hj; omega)).2.2.2.2.1 x (List.mem_of_mem_take hx)
end Go.Proofs.Ytabanackdjlcmaa
