/-
  Slices of shards' rows, and of shards. No program in sight.
-/
import Derived.Test.YtabanackdjlcmaaLib5
import Derived.Test.YtabanackdjlcmaaPlain
namespace Go.Proofs.Ytabanackdjlcmaa
open Go.ChangeShapes Go.WideShapes Go.ChangeAt Go.RowKit Go.Maps

theorem add_more (a : Addr) (i j : Nat) (hj : 0 < j) : (⟨(a.add i).block, (a.add i).off + j, none⟩ : Addr) = a.add (i + j) := by
  obtain ⟨j, rfl⟩ : ∃ k, j = k + 1 := ⟨j - 1, by omega⟩
  rw [show i + (j + 1) = (i + j) + 1 by omega, Addr.add_succ']
  unfold Addr.add
  by_cases h : i = 0
  · rw [if_pos h]; subst h; simp
  · rw [if_neg h]; simp; omega
/-- A shard's rows: its number, and its lengths. -/
abbrev Rw := List (Int × List Int)
/-- Cells that read as such rows. -/
def RowsC (w : World) (vs : List Value) (rs : Rw) : Prop :=
  vs.length = rs.length * 2 ∧ ∀ (i : Nat) r, rs[i]? = some r → vs[i * 2]? = some (.int .i64 r.1) ∧ ∃ sv, vs[i * 2 + 1]? = some sv ∧ SlR w sv (u64s r.2)
/-- A slice that reads as such rows. -/
def RowsL (w : World) (v : Value) (rs : Rw) : Prop := ∃ ao c, v = .slice ao rs.length c ∧ rs.length ≤ c ∧ c ≤ 9223372036854775807 ∧
  ∀ (i : Nat) r, rs[i]? = some r → ∃ a sv, ao = some a ∧ w.cell? (a.add (i * 2)) = some (.int .i64 r.1) ∧ w.cell? ⟨(a.add (i * 2)).block, (a.add (i * 2)).off + 1, none⟩ = some sv ∧ SlR w sv (u64s r.2)
theorem RowsC.nil (w : World) : RowsC w [] [] := ⟨rfl, by simp⟩
theorem RowsL.nil (w : World) : RowsL w (.slice none 0 0) [] := ⟨none, 0, rfl, Nat.le_refl _, by omega, by simp⟩
theorem RowsC.below {B : Nat} {w w' : World} {vs : List Value} {rs : Rw} (h : RowsC w vs rs) (hb : Below B w w') (hB : w.heap.size ≤ B) : RowsC w' vs rs :=
  ⟨h.1, fun i r hr => ⟨(h.2 i r hr).1, by obtain ⟨sv, h1, h2⟩ := (h.2 i r hr).2; exact ⟨sv, h1, h2.below hb hB⟩⟩⟩
theorem RowsL.below {B : Nat} {w w' : World} {v : Value} {rs : Rw} (hb : Below B w w') (hB : w.heap.size ≤ B) (h : RowsL w v rs) : RowsL w' v rs := by
  obtain ⟨ao, c, e, h1, h2, hx⟩ := h
  refine ⟨ao, c, e, h1, h2, fun i r hr => ?_⟩
  obtain ⟨a, sv, ha, c1, c2, hs⟩ := hx i r hr
  refine ⟨a, sv, ha, ?_, ?_, hs.below hb hB⟩
  · rw [hb.cell (by have := World.block_lt_of_cell? w _ c1; omega)]; exact c1
  · rw [hb.cell (by have := World.block_lt_of_cell? w _ c2; omega)]; exact c2
theorem RowsC.keep {S : Nat → Prop} {w w' : World} {vs : List Value} {rs : Rw} (h : RowsC w vs rs) (hk : Keep S w w') (ho : ∀ u ∈ vs, Off S u) : RowsC w' vs rs :=
  ⟨h.1, fun i r hr => ⟨(h.2 i r hr).1, by obtain ⟨sv, h1, h2⟩ := (h.2 i r hr).2; exact ⟨sv, h1, h2.keep hk (ho sv (List.mem_of_getElem? h1))⟩⟩⟩
theorem RowsC.snoc {w : World} {vs : List Value} {rs : Rw} {id : Int} {sv : Value} {r : List Int} (h : RowsC w vs rs) (hs : SlR w sv (u64s r)) : RowsC w (vs ++ [.int .i64 id, sv]) (rs ++ [(id, r)]) := by
  refine ⟨by simp [h.1]; omega, fun i x hx => ?_⟩
  rw [List.getElem?_append] at hx
  by_cases hi : i < rs.length
  · rw [if_pos hi] at hx
    obtain ⟨h1, sv', h2, h3⟩ := h.2 i x hx
    exact ⟨by rw [List.getElem?_append_left (by have := h.1; omega)]; exact h1, sv', by rw [List.getElem?_append_left (by have := h.1; omega)]; exact h2, h3⟩
  · rw [if_neg hi] at hx
    have hi0 : i = rs.length := by
      have := (List.getElem?_eq_some_iff.1 hx).1
      simp at this; omega
    subst hi0
    simp at hx
    subst hx
    refine ⟨?_, sv, ?_, hs⟩
    · rw [List.getElem?_append_right (by have := h.1; omega), h.1, Nat.sub_self]; rfl
    · rw [List.getElem?_append_right (by have := h.1; omega), h.1, show rs.length * 2 + 1 - rs.length * 2 = 1 by omega]; rfl
theorem RowsC.one {w : World} {vs : List Value} {rs : Rw} (h : RowsC w vs rs) : ∀ u ∈ vs, u.oneCell' = true := by
  intro u hu
  obtain ⟨i, hi, rfl⟩ := List.getElem_of_mem hu
  have hl := h.1
  have hr : i / 2 < rs.length := by omega
  obtain ⟨h1, sv, h2, h3⟩ := h.2 (i / 2) _ (List.getElem?_eq_getElem hr)
  rcases Nat.mod_two_eq_zero_or_one i with e | e
  · rw [show i / 2 * 2 = i by omega, List.getElem?_eq_getElem hi] at h1
    rw [Option.some.inj h1]; rfl
  · rw [show i / 2 * 2 + 1 = i by omega, List.getElem?_eq_getElem hi] at h2
    obtain ⟨ao, c, e, _⟩ := h3.form
    rw [Option.some.inj h2, e]; rfl
theorem RowsL.of_own {w : World} {base : Nat} {e : TypeId} {v : Value} {n : Nat} {vs : List Value} {rs : Rw} (h : w.ownsRow base e 2 v n vs) (hc : RowsC w vs rs) : RowsL w v rs := by
  have hn : n = rs.length := by have := h.1; have := hc.1; omega
  subst hn
  rcases h.2 with ⟨rfl, h0⟩ | ⟨g, cap, cur, rfl, hb, hg, hnc, hcm, hcs, htake⟩
  · have : rs = [] := List.eq_nil_of_length_eq_zero h0
    subst this
    exact RowsL.nil w
  · unfold maxLen at hcm
    refine ⟨some ⟨g, 0, none⟩, cap, rfl, hnc, by omega, fun i r hr => ?_⟩
    obtain ⟨h1, sv, h2, h3⟩ := hc.2 i r hr
    refine ⟨_, sv, rfl, h.cells (g := g) rfl _ _ h1, ?_, h3⟩
    rw [add_more _ _ _ (by omega)]
    exact h.cells (g := g) rfl _ _ h2

/-- A shard. -/
structure Sh where
  id : Int
  segs : Nat
  lens : List Int
  fin : Bool
/-- A slice that reads as shards. -/
def ShL (w : World) (v : Value) (hs : List Sh) : Prop := ∃ ao c, v = .slice ao hs.length c ∧ hs.length ≤ c ∧ c ≤ 9223372036854775807 ∧
  ∀ (i : Nat) s, hs[i]? = some s → ∃ a sv, ao = some a ∧ w.cell? (a.add (i * 4)) = some (.int .i64 s.id) ∧ w.cell? ⟨(a.add (i * 4)).block, (a.add (i * 4)).off + 1, none⟩ = some (.int .i64 s.segs) ∧
    w.cell? ⟨(a.add (i * 4)).block, (a.add (i * 4)).off + 2, none⟩ = some sv ∧ w.cell? ⟨(a.add (i * 4)).block, (a.add (i * 4)).off + 3, none⟩ = some (.bool s.fin) ∧ SlR w sv (u64s s.lens)
theorem ShL.below {B : Nat} {w w' : World} {v : Value} {hs : List Sh} (hb : Below B w w') (hB : w.heap.size ≤ B) (h : ShL w v hs) : ShL w' v hs := by
  obtain ⟨ao, c, e, h1, h2, hx⟩ := h
  refine ⟨ao, c, e, h1, h2, fun i s hs => ?_⟩
  obtain ⟨a, sv, ha, c1, c2, c3, c4, hs⟩ := hx i s hs
  refine ⟨a, sv, ha, ?_, ?_, ?_, ?_, hs.below hb hB⟩
  · rw [hb.cell (by have := World.block_lt_of_cell? w _ c1; omega)]; exact c1
  · rw [hb.cell (by have := World.block_lt_of_cell? w _ c2; omega)]; exact c2
  · rw [hb.cell (by have := World.block_lt_of_cell? w _ c3; omega)]; exact c3
  · rw [hb.cell (by have := World.block_lt_of_cell? w _ c4; omega)]; exact c4
theorem ShL.nil (w : World) : ShL w (.slice none 0 0) [] := ⟨none, 0, rfl, Nat.le_refl _, by omega, by simp⟩

/-- 'append(out, u)': one element of some cells, laid in a new block. -/
theorem wpList_appS {P : Program} {w : World} {ops : Array Oper} {rest : List Oper} {o : Oper} {a : Act} {Q : Exit → Act → World → Prop} (hgd : o.guard = none) (s x : Operand) (t : TypeId)
    (ho : o.op = .call { callee := .builtin .append, args := #[s, x], argTypes := #[t, t] })
    (base : Nat) (e : TypeId) (i : TypeInfo) (z : Value) (size bytes : Nat) (ht : P.underlying t = some (.slice e)) (hi : P.info? e = some i) (hz : i.zero = some z)
    (hsize : i.size = size) (hby : i.bytes = bytes) (hzs : z.cells.size = size) (hsz : 0 < size) (hb64 : bytes ≤ 64)
    {v : Value} {n : Nat} {xs : List Value} {us : Array Value} {c B : Nat} {e' : TypeId} {fr : Nat × Nat} (hs : a.eval s = v) (hx : a.eval x = .slice (some ⟨B, 0, none⟩) 1 c) (hB : w.heap.size = B) (hm : us.toList.length = size) (hown : w.ownsRow base e size v n xs) (hu : ∀ u ∈ us.toList, u.oneCell' = true)
    (hlen : n ≤ 1099511627776) (hbase : base ≤ w.heap.size)
    (h : ∀ g cap w', w'.ownsRow base e size (.slice (some ⟨g, 0, none⟩) (n + 1) cap) (n + 1) (xs ++ us.toList) → (w.alloc (.cells us e' fr)).grownBy w' v.ownBlock → (v.ownBlock = some g ∨ g = w.heap.size + 1) →
      wpList P ops Q rest (a.put o.dst (.slice (some ⟨g, 0, none⟩) (n + 1) cap)) w') : wpList P ops Q (o :: rest) a (w.alloc (.cells us e' fr)) := by
  subst hB
  refine wpList_append_lies _ hgd s x t ho base e i z size bytes ht hi hz hsize hby hzs hsz v n xs hs (hown.alloc _) ⟨w.heap.size, 0, none⟩ 1 c us.toList hx (by omega) (World.news_of_block (heap_alloc_new w _)) hu (by decide) (by unfold maxLen; omega)
    (by have := Nat.mul_le_mul_left (n + 1) hb64; omega) (by simp; omega) _ rfl ?_
  intro g cap w' h1 h2 h3 _
  exact h g cap w' h1 h2 (by simpa using h3)
end Go.Proofs.Ytabanackdjlcmaa
