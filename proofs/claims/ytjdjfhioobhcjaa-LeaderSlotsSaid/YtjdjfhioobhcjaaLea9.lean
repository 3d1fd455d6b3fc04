/-
  Package leader: rising, Open.
-/
import Derived.Test.YtjdjfhioobhcjaaLea8
import Derived.Test.YtjdjfhioobhcjaaKeyO
namespace Go.Proofs.Ytjdjfhioobhcjaa
open Go.ChangeShapes Go.WideShapes Go.ChangeAt Go.RowKit Go.Maps Go.Shelf
set_option maxRecDepth 100000

theorem openFn_any (w : World) (s b n : Int) (ao : Option Addr) (l c : Nat) : Calls Try.prog 63 #[.agg #[.int .u64 s, .int .u64 b, .slice ao l c, .int .u32 n]] w fun e w' => e = .returned (.agg #[.int .u64 s, .int .u64 b, .slice ao l c]) ∧ Below w.heap.size w w' := by
  have hb : Below w.heap.size w ((w.alloc (.cells #[.int .u64 s, .int .u64 b, .slice ao l c, .int .u32 n] 127)).alloc (.cells #[.int .u64 s, .int .u64 b, .slice ao l c] 39)) := ((Below.refl _ _).alloc (Nat.le_refl _) _).alloc (by simp) _
  have hk := heap_alloc_new (w.alloc (.cells #[.int .u64 s, .int .u64 b, .slice ao l c, .int .u32 n] 127)) (.cells #[.int .u64 s, .int .u64 b, .slice ao l c] 39)
  rw [show (w.alloc (.cells #[.int .u64 s, .int .u64 b, .slice ao l c, .int .u32 n] 127)).heap.size = w.heap.size + 1 by simp] at hk
  have HK := Lib.hid hk
  have HB := Lib.hid hb
  clear hk hb
  go_enter Try.func63, Try.ntmps63
  go_wp2
  obtain ⟨W4, HW4⟩ : ∃ x, x = (w.alloc (.cells #[.int .u64 s, .int .u64 b, .slice ao l c, .int .u32 n] 127)).alloc (.cells #[.int .u64 s, .int .u64 b, .slice ao l c] 39) := ⟨_, rfl⟩
  have hk := HK.out
  have hb := HB.out
  rw [← HW4] at hk hb ⊢
  have s0 : W4.cell? ⟨w.heap.size + 1, 0, none⟩ = some (.int .u64 s) := World.news_of_block hk 0 _ rfl
  have s1 : W4.cell? ⟨w.heap.size + 1, 1, none⟩ = some (.int .u64 b) := World.news_of_block hk 1 _ rfl
  have s2 : W4.cell? ⟨w.heap.size + 1, 2, none⟩ = some (.slice ao l c) := World.news_of_block hk 2 _ rfl
  refine bodyPost_ret (v := .agg #[.int .u64 s, .int .u64 b, .slice ao l c]) (by simp [results, Try.results63, go_sem, s0, s1, s2]) rfl ?_
  exact ⟨rfl, hb⟩
/-- The slots with proposals, rising. -/
def IsOKeys (l : Int → Option (Vt × (Nat → Bool))) (ks : List Int) : Prop := ks.Pairwise (· < ·) ∧ ∀ x, x ∈ ks ↔ (l x).isSome = true
def opL (l : Int → Option (Vt × (Nat → Bool))) (ks : List Int) : List Vt := ks.filterMap (fun a => (l a).map Prod.fst)
theorem opL_take {l : Int → Option (Vt × (Nat → Bool))} {ks : List Int} {k : Nat} {x : Int} {q : Vt × (Nat → Bool)} (hk : ks[k]? = some x) (hv : l x = some q) : opL l (ks.take (k + 1)) = opL l (ks.take k) ++ [q.1] := by
  obtain ⟨h1, h2⟩ := List.getElem?_eq_some_iff.1 hk
  unfold opL
  rw [List.take_succ_eq_append_getElem h1, h2, List.filterMap_append]
  simp [hv]
theorem opL_le (l : Int → Option (Vt × (Nat → Bool))) (ks : List Int) (k : Nat) : (opL l (ks.take k)).length ≤ k := by
  unfold opL
  have h1 := List.length_filterMap_le (fun a => (l a).map Prod.fst) (ks.take k)
  have h3 := List.length_take_le k ks
  omega
theorem IsOKeys.of {w : World} {D : Nat → Prop} {b0 bl N : Nat} {ko : Option Nat} {A : LS} (h : LeaR w D b0 ko (some bl) N A) : ∃ f, MapR w Try.prog 29 bl N f ∧ (∀ ks, SortedKeys f ks → IsOKeys A.op ks) ∧ ∀ ss, AllKeys f ss → ∀ x ∈ ss, (A.op x).isSome = true := by
  obtain ⟨f, hf, hv, hx⟩ := h.op.some_ bl rfl
  have key : ∀ x : Int, (f (.int .u64 x)).isSome = true ↔ (A.op x).isSome = true := by
    intro x
    constructor
    · intro hs
      obtain ⟨a, ha, e⟩ := hx _ hs
      cases e
      have := hv x ha
      cases hl : A.op x with
      | none => rw [hl] at this; have h0 : f (.int .u64 x) = none := this; rw [h0] at hs; cases hs
      | some v => rfl
    · intro hs
      obtain ⟨v, hl⟩ := Option.isSome_iff_exists.1 hs
      have := hv x (h.op.small x v hl).1
      rw [hl] at this
      obtain ⟨v1, v2⟩ := v
      obtain ⟨sv, e, _⟩ := this
      rw [e]; rfl
  exact ⟨f, hf, fun ks hk => ⟨hk.1, fun x => (hk.2 x).trans (key x)⟩, fun ss hs x hx => (key x).1 ((hs.2 x).1 hx)⟩
end Go.Proofs.Ytjdjfhioobhcjaa
