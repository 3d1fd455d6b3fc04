/-
  Contracts of package learner.
-/
import Derived.Test.YtfkganccglmmlaaLib4
import Derived.Test.YtfkganccglmmlaaProg
namespace Go.Proofs.Ytfkganccglmmlaa
open Go.ChangeShapes Go.WideShapes Go.ChangeAt Go.RowKit Go.Maps

/-- What is known: a slot's bytes. -/
abbrev Kn := Int → Option (List Int)
def IsNext (m : Kn) (next : Int) : Prop := 0 ≤ next ∧ (∀ j, 0 ≤ j → j < next → m j ≠ none) ∧ m next = none
def IsTop (m : Kn) (top : Int) : Prop := 0 ≤ top ∧ top ≤ 18446744073709551615 ∧ (∀ j, m j ≠ none → 0 ≤ j ∧ j < top) ∧ (top = 0 ∨ m (top - 1) ≠ none)
theorem IsNext.unique {m : Kn} {a b : Int} (h : IsNext m a) (k : IsNext m b) : a = b := by
  rcases Int.lt_trichotomy a b with h1 | h1 | h1
  · exact absurd h.2.2 (k.2.1 a h.1 h1)
  · exact h1
  · exact absurd k.2.2 (h.2.1 b k.1 h1)
theorem IsTop.unique {m : Kn} {a b : Int} (h : IsTop m a) (k : IsTop m b) : a = b := by
  obtain ⟨a0, a1, a2, a3⟩ := h
  obtain ⟨b0, b1, b2, b3⟩ := k
  rcases a3 with a3 | a3
  · rcases b3 with b3 | b3
    · omega
    · have := (a2 _ b3).2; omega
  · have h1 := (b2 _ a3).2
    rcases b3 with b3 | b3
    · have := (b2 _ a3).1; omega
    · have := (a2 _ b3).2; omega
theorem next_le_top {m : Kn} {a b : Int} (h : IsNext m a) (k : IsTop m b) : a ≤ b := by
  rcases Int.lt_or_le b a with h1 | h1
  · have := (k.2.2.1 b (h.2.1 b k.1 h1)).2; omega
  · exact h1
/-- One slot more. -/
def putK (m : Kn) (slot : Int) (xs : List Int) : Kn := fun j => if j = slot then some xs else m j
theorem putK_self (m : Kn) (slot : Int) (xs : List Int) : putK m slot xs slot = some xs := by simp [putK]
theorem putK_ne (m : Kn) (slot : Int) (xs : List Int) (j : Int) (h : j ≠ slot) : putK m slot xs j = m j := by simp [putK, h]
theorem IsTop.put {m : Kn} {top slot : Int} {xs : List Int} (h : IsTop m top) (h0 : 0 ≤ slot) (h1 : slot < 18446744073709551615) : IsTop (putK m slot xs) (max top (slot + 1)) := by
  obtain ⟨a0, a1, a2, a3⟩ := h
  refine ⟨by omega, by omega, fun j hj => ?_, ?_⟩
  · by_cases e : j = slot
    · subst e; omega
    · rw [putK_ne _ _ _ _ e] at hj; have := a2 j hj; omega
  · right
    by_cases e : slot + 1 ≤ top
    · rw [show max top (slot + 1) = top by omega]
      by_cases e2 : top - 1 = slot
      · rw [e2, putK_self]; simp
      · rw [putK_ne _ _ _ _ e2]
        rcases a3 with a3 | a3
        · omega
        · exact a3
    · rw [show max top (slot + 1) - 1 = slot by omega, putK_self]; simp

/-- How a slot's bytes lie. -/
def LVal (w : World) (b0 bm : Nat) (fv : Option Value) : Option (List Int) → Prop
  | none => fv = none
  | some xs => ∃ a c, fv = some (.slice (some a) xs.length c) ∧ SlR w (.slice (some a) xs.length c) (u8s xs) ∧ a.block ≠ b0 ∧ a.block ≠ bm
/-- The two blocks that a learner writes. -/
def LS (b0 bm : Nat) : Nat → Prop := fun k => k = b0 ∨ k = bm
def LCells (b0 bm : Nat) (w : World) (next top : Int) : Prop := w.heap[b0]? = some (.cells #[.map (some bm), .int .u64 next, .int .u64 top] 53 (0, 0))
structure LMap (w : World) (b0 bm n : Nat) (m : Kn) : Prop where
  ne : bm ≠ b0
  vals : ∃ f, MapR w Try.prog 29 bm n f ∧ ∀ a : Int, 0 ≤ a → a ≤ 18446744073709551615 → LVal w b0 bm (f (.int .u64 a)) (m a)
  small : ∀ a xs, m a = some xs → U8 xs ∧ xs.length ≤ 1048576
structure LearnerR (w : World) (b0 bm n : Nat) (m : Kn) (next top : Int) : Prop where
  cells : LCells b0 bm w next top
  map : LMap w b0 bm n m
  next : IsNext m next
  top : IsTop m top

theorem LVal.keep {S : Nat → Prop} {w w' : World} {b0 bm : Nat} {fv : Option Value} {mx : Option (List Int)} (hk : Keep S w w') (hS : ∀ k, S k → k = b0 ∨ k = bm) (h : LVal w b0 bm fv mx) : LVal w' b0 bm fv mx := by
  cases mx with
  | none => exact h
  | some xs =>
    obtain ⟨a, c, h1, h2, h3, h4⟩ := h
    refine ⟨a, c, h1, h2.keep hk (fun k hk' hs => ?_), h3, h4⟩
    simp [Value.ownBlock] at hk'
    rcases hS k hs with e | e <;> omega
theorem LMap.same {S : Nat → Prop} {w w' : World} {b0 bm n : Nat} {m : Kn} (hk : Keep S w w') (hS : ∀ k, S k → k = b0) (h : LMap w b0 bm n m) : LMap w' b0 bm n m := by
  obtain ⟨h1, ⟨f, hf, hv⟩, h2⟩ := h
  exact ⟨h1, ⟨f, hf.keep hk (fun hs => h1 (hS _ hs)), fun a ha hb => (hv a ha hb).keep hk (fun k hs => Or.inl (hS k hs))⟩, h2⟩
theorem LCells.cell0 {b0 bm : Nat} {w : World} {next top : Int} (h : LCells b0 bm w next top) : w.cell? ⟨b0, 0, none⟩ = some (.map (some bm)) ∧ w.cell? ⟨b0, 1, none⟩ = some (.int .u64 next) ∧ w.cell? ⟨b0, 2, none⟩ = some (.int .u64 top) ∧
    w.frozen? ⟨b0, 1, none⟩ = false ∧ w.frozen? ⟨b0, 2, none⟩ = false := by
  unfold LCells at h
  simp [World.cell?, World.frozen?, h]
theorem LearnerR.keep {w w' : World} {b0 bm n : Nat} {m : Kn} {next top : Int} (h : LearnerR w b0 bm n m next top) {S : Nat → Prop} (hk : Keep S w w') (h0 : ¬ S b0) (hm : ¬ S bm) (hv : ∀ k, S k → w.heap.size ≤ k) : LearnerR w' b0 bm n m next top := by
  have hb : b0 < w.heap.size := by have := h.cells; unfold LCells at this; exact (Array.getElem?_eq_some_iff.1 this).1
  refine ⟨(hk.block b0 hb h0).trans h.cells, ?_, h.next, h.top⟩
  obtain ⟨h1, ⟨f, hf, hv'⟩, h2⟩ := h.map
  refine ⟨h1, ⟨f, hf.keep hk hm, fun a ha hb => ?_⟩, h2⟩
  have := hv' a ha hb
  cases hma : m a with
  | none => rw [hma] at this; exact this
  | some xs =>
    rw [hma] at this
    obtain ⟨ad, c, e1, e2, e3, e4⟩ := this
    refine ⟨ad, c, e1, ?_, e3, e4⟩
    exact e2.below (B := w.heap.size) (hk.below (Nat.le_refl _) hv) (Nat.le_refl _)
theorem LearnerR.below {w w' : World} {b0 bm n : Nat} {m : Kn} {next top : Int} (h : LearnerR w b0 bm n m next top) (hb : Below w.heap.size w w') : LearnerR w' b0 bm n m next top := by
  have hb0 : b0 < w.heap.size := by have := h.cells; unfold LCells at this; exact (Array.getElem?_eq_some_iff.1 this).1
  obtain ⟨h1, ⟨f, hf, _⟩, _⟩ := h.map
  have hbm := hf.lt
  exact h.keep (S := fun k => w.heap.size ≤ k) (Below.keep hb (fun k _ h => h)) (by omega) (by omega) (fun k h => h)

theorem new_any (w : World) : Calls Try.prog 8 #[] w fun e w' => e = .returned (.pointer (some ⟨w.heap.size + 1, 0, none⟩)) ∧ LearnerR w' (w.heap.size + 1) w.heap.size 0 (fun _ => none) 0 0 ∧ Below w.heap.size w w' := by
  have hmm := @run_makeMap Try.prog
  go_enter Try.func8, Try.ntmps8
  go_wp2
  go_ret
  have e : ((w.alloc (.map #[] 0)).heap.size) = w.heap.size + 1 := by simp
  refine ⟨by simp, ⟨?_, ⟨by omega, ⟨_, ((MapR.made w Try.prog 29).same (Below.heap_alloc _ _ _ (by simp))), fun a _ _ => rfl⟩, by simp⟩, ⟨by omega, by intro j h1 h2; omega, rfl⟩, ⟨by omega, by omega, by simp, Or.inl rfl⟩⟩, ((Below.refl _ _).alloc (Nat.le_refl _) _).alloc (by simp) _⟩
  unfold LCells
  have := heap_alloc_new (w.alloc (.map #[] 0)) (.cells #[.map (some w.heap.size), .int .u64 0, .int .u64 0] 53 (0, 0))
  rw [e] at this
  exact this

theorem equal_any {va vb : Value} {a b : List Int} {w : World} (ha : SlR w va (u8s a)) (hb : SlR w vb (u8s b)) (ua : U8 a) (ub : U8 b) :
    Calls Try.prog 21 #[va, vb] w fun e w' => e = .returned (.bool (a == b)) ∧ w = w' := by
  have h1 := run_strB Try.underlying28 Try.underlying5 Try.underlying9 ha
  have h2 := run_strB Try.underlying28 Try.underlying5 Try.underlying9 hb
  have h3 := strB_beq ua ub
  clear ha hb
  generalize strB a = sa at *
  generalize strB b = sb at *
  go_enter Try.func21, Try.ntmps21
  go_wp2
  go_ret
  exact ⟨by first | rfl | simp [h3], rfl⟩
end Go.Proofs.Ytfkganccglmmlaa
