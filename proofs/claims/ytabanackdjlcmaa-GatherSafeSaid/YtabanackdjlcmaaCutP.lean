/-
  What the loops of a cut carry.
-/
import Derived.Test.YtabanackdjlcmaaCut
import Derived.Test.YtabanackdjlcmaaFind2
namespace Go.Proofs.Ytabanackdjlcmaa
open Go.ChangeShapes Go.WideShapes Go.ChangeAt Go.RowKit Go.Maps
set_option maxRecDepth 100000

theorem Try.spanInfo : (Try.prog.info? 60).map (fun i => (i.zero, i.size, i.bytes)) = some (some (.agg #[.int .u64 0, .int .i64 0, .int .i64 0, .int .u64 0, .int .u64 0]), 5, 40) := by kernel_rfl

theorem SlR.via {B : Nat} {w w5 wq : World} {v : Value} {cs : List Value} (h : SlR w5 v cs) (h5 : Below B w w5) (hq : Below B w wq) (ho : ∀ k, v.ownBlock = some k → k < B) : SlR wq v cs := by
  obtain ⟨ao, c, rfl, h1, h2, hx⟩ := h
  refine ⟨ao, c, rfl, h1, h2, fun i u hi => ?_⟩
  obtain ⟨a, rfl, hc⟩ := hx i u hi
  have hb := ho a.block rfl
  refine ⟨a, rfl, ?_⟩
  rw [hq.cell (by rw [block_add]; exact hb), ← h5.cell (by rw [block_add]; exact hb)]
  exact hc
/-- What the first loop carries: the new spans, and their numbers behind the state's. -/
structure CutA (w : World) (F : FS) (L : List Sp) (lv av : Value) (wr : World) : Prop where
  below : Below w.heap.size w wr
  spans : wr.ownsRow w.heap.size 60 5 lv L.length (spC L)
  nums : wr.ownsRow w.heap.size 39 1 av (L.length + 1) (u64s (F.n :: manyOf L))
  apart : ∀ k, lv.ownBlock = some k → av.ownBlock ≠ some k
theorem CutA.step {w : World} {F : FS} {L : List Sp} {lv av : Value} {wr w' : World} (h : CutA w F L lv av wr) (hb : Below wr.heap.size wr w') : CutA w F L lv av w' :=
  ⟨h.below.trans (hb.mono h.below.size), own_keep h.spans (fun b hb' => hb.block b (h.spans.lt b hb').2), own_keep h.nums (fun b hb' => hb.block b (h.nums.lt b hb').2), h.apart⟩

/-- Behind the span's append: the numbers are as they were, apart from it. -/
theorem CutA.span {w : World} {F : FS} {L : List Sp} {lv av : Value} {wr w' : World} {s : Sp} {t : TypeId} (h : CutA w F L lv av wr) {g cap : Nat}
    (hown : w'.ownsRow w.heap.size 60 5 (.slice (some ⟨g, 0, none⟩) (L.length + 1) cap) (L.length + 1) (spC L ++ [.int .u64 s.pos, .int .i64 s.shard, .int .i64 s.seg, .int .u64 s.off, .int .u64 s.many]))
    (hg : (wr.alloc (.cells #[.int .u64 s.pos, .int .i64 s.shard, .int .i64 s.seg, .int .u64 s.off, .int .u64 s.many] t)).grownBy w' lv.ownBlock) (hor : lv.ownBlock = some g ∨ g = wr.heap.size + 1) :
    w'.ownsRow w.heap.size 60 5 (.slice (some ⟨g, 0, none⟩) (L.length + 1) cap) (L ++ [s]).length (spC (L ++ [s])) ∧ w'.ownsRow w.heap.size 39 1 av (L.length + 1) (u64s (F.n :: manyOf L)) ∧ av.ownBlock ≠ some g ∧ Below w.heap.size w w' ∧ (∀ k, k < wr.heap.size → lv.ownBlock ≠ some k → w'.heap[k]? = wr.heap[k]?) ∧ wr.heap.size + 1 ≤ w'.heap.size := by
  have hkp : Keep (fun k => lv.ownBlock = some k) wr w' := (Below.keep0 _ ((Below.refl _ _).alloc (Nat.le_refl _) _)).trans (Keep.grown hg (fun k hk => hk))
  refine ⟨?_, own_keep h.nums (fun b hb => hkp.block b (h.nums.lt b hb).2 (fun e => h.apart b e hb)), fun e => ?_, h.below.trans (hkp.below h.below.size (fun k hk => (h.spans.lt k hk).1)), fun k hk hn => hkp.block k hk hn, ?_⟩
  · rw [spC_app, List.length_append]; exact hown
  · rcases hor with hh | hh
    · exact h.apart g hh e
    · have := (h.nums.lt g e).2; omega
  · have := hg.size; simpa using this


/-- Two blocks that neither the spans nor the numbers lie in. -/
def Apart2 (l al : Value) (B1 B2 : Nat) : Prop := ∀ k, l.ownBlock = some k ∨ al.ownBlock = some k → k ≠ B1 ∧ k ≠ B2
theorem CutA.apart2 {w : World} {F : FS} {L : List Sp} {lv av : Value} {wr : World} (h : CutA w F L lv av wr) {B1 B2 : Nat} (h1 : wr.heap.size ≤ B1) (h2 : wr.heap.size ≤ B2) : Apart2 lv av B1 B2 := by
  intro k hk
  have : k < wr.heap.size := by
    rcases hk with hk | hk
    · exact (h.spans.lt k hk).2
    · exact (h.nums.lt k hk).2
  omega
/-- Behind both appends. -/
theorem CutA.both {w : World} {F : FS} {L : List Sp} {lv av : Value} {wr w7 w8 : World} {s : Sp} {g cap g8 cap8 B1 B2 : Nat} (h : CutA w F L lv av wr)
    (hs7 : w7.ownsRow w.heap.size 60 5 (.slice (some ⟨g, 0, none⟩) (L.length + 1) cap) (L ++ [s]).length (spC (L ++ [s]))) (ha7 : av.ownBlock ≠ some g) (hg : lv.ownBlock = some g ∨ g = wr.heap.size + 1)
    (hk7 : ∀ k, k < wr.heap.size → lv.ownBlock ≠ some k → w7.heap[k]? = wr.heap[k]?) (hz7 : wr.heap.size + 1 ≤ w7.heap.size) (hb7 : Below w.heap.size w w7)
    (ho8 : w8.ownsRow w.heap.size 39 1 (.slice (some ⟨g8, 0, none⟩) (L.length + 1 + 1) cap8) (L.length + 1 + 1) (u64s (F.n :: manyOf L) ++ [.int .u64 s.many])) (hb8 : Below w.heap.size w7 w8)
    (hor8 : av.ownBlock = some g8 ∨ w7.heap.size ≤ g8) (hk8 : ∀ k, k < w7.heap.size → some k ≠ av.ownBlock → w8.heap[k]? = w7.heap[k]?) (hap : Apart2 lv av B1 B2) (h1 : B1 < wr.heap.size) (h2 : B2 < wr.heap.size) :
    CutA w F (L ++ [s]) (.slice (some ⟨g, 0, none⟩) (L.length + 1) cap) (.slice (some ⟨g8, 0, none⟩) (L.length + 1 + 1) cap8) w8 ∧ Apart2 (.slice (some ⟨g, 0, none⟩) (L.length + 1) cap) (.slice (some ⟨g8, 0, none⟩) (L.length + 1 + 1) cap8) B1 B2 ∧
    w8.heap[B1]? = wr.heap[B1]? ∧ w8.heap[B2]? = wr.heap[B2]? := by
  have hg7 := (hs7.lt g rfl).2
  have hkk : ∀ B, B < wr.heap.size → (∀ k, lv.ownBlock = some k ∨ av.ownBlock = some k → k ≠ B) → w8.heap[B]? = wr.heap[B]? := fun B hB hn => by
    rw [hk8 B (by omega) (fun e => hn B (Or.inr e.symm) rfl), hk7 B hB (fun e => hn B (Or.inl e) rfl)]
  refine ⟨⟨hb7.trans hb8, own_keep hs7 (fun b hb => ?_), ?_, fun k hk => ?_⟩, fun k hk => ?_, hkk B1 h1 (fun k hk => (hap k hk).1), hkk B2 h2 (fun k hk => (hap k hk).2)⟩
  · cases hb
    exact hk8 g hg7 (fun e => ha7 e.symm)
  · have e : u64s (F.n :: manyOf (L ++ [s])) = u64s (F.n :: manyOf L) ++ [.int .u64 s.many] := by simp [manyOf]
    rw [e, List.length_append]
    exact ho8
  · cases hk
    intro e
    cases e
    rcases hor8 with hh | hh
    · exact ha7 hh
    · rcases hg with hg | hg
      · have := (h.spans.lt g hg).2; omega
      · omega
  · rcases hk with hk | hk
    · cases hk
      show g ≠ B1 ∧ g ≠ B2
      rcases hg with hg | hg
      · exact hap g (Or.inl hg)
      · omega
    · cases hk
      show g8 ≠ B1 ∧ g8 ≠ B2
      rcases hor8 with hh | hh
      · exact hap g8 (Or.inr hh)
      · omega
theorem CutA.start (w : World) (F : FS) : CutA w F [] (.slice none 0 0) (.slice (some ⟨w.heap.size, 0, none⟩) 1 1) (w.alloc (.cells #[.int .u64 F.n] 39)) := by
  refine ⟨(Below.refl _ _).alloc (Nat.le_refl _) _, World.ownsRow_nil _ _ _ _, ⟨rfl, Or.inr ⟨w.heap.size, 1, #[.int .u64 F.n], rfl, Nat.le_refl _, heap_alloc_new w _, by simp, by decide, rfl, rfl⟩⟩, by intro k hk; cases hk⟩

/-- How many new spans there may be. -/
theorem rowsSp_len {F : FS} {rs : Rw} (h : ∀ r ∈ rs, r.2.length ≤ 4) : (rowsSp F rs).length ≤ 4 * rs.length := by
  induction rs with
  | nil => simp [rowsSp]
  | cons r rs ih =>
    have h1 := ih (fun x hx => h x (by simp [hx]))
    have h2 := newSp_len (lensOf F r.1) r.1 r.2 r.2.length
    have h3 := h r (by simp)
    have e : rowsSp F (r :: rs) = rowSp F r ++ rowsSp F rs := by simp [rowsSp]
    rw [e, List.length_append, List.length_cons]
    unfold rowSp
    omega
theorem newSp_mem {lens : List Int} {shard : Int} {xs : List Int} {k : Nat} (hx : U64 xs) (hl : U64 lens) {s : Sp} (h : s ∈ newSp lens shard xs k) : 0 < s.many ∧ s.many ≤ 18446744073709551615 ∧ 0 ≤ s.off ∧ s.off + s.many ≤ 18446744073709551615 ∧ s.shard = shard ∧ s.off = atI lens s.seg ∧ s.off + s.many = atI xs s.seg ∧ ∃ i : Nat, i < k ∧ s.seg = i := by
  unfold newSp at h
  rw [List.mem_flatMap] at h
  obtain ⟨i, hi, hs⟩ := h
  by_cases hlt : atI lens i < atI xs i
  · rw [if_pos hlt] at hs
    simp at hs
    subst hs
    have h1 := hx.at i
    have h2 := hl.at i
    have hi' := List.mem_range.1 hi
    refine ⟨?_, ?_, ?_, ?_, rfl, rfl, ?_, i, hi', rfl⟩ <;> simp only <;> omega
  · rw [if_neg hlt] at hs
    cases hs
theorem rows_u64 {D : Nat → Prop} {w : World} {b0 bs bt N : Nat} {lv : Value} {F : FS} (h : FoldR w D b0 bs bt N lv F) {rs : Rw} (hu : ∀ r ∈ rs, U64 r.2) : U64 (F.n :: manyOf (rowsSp F rs)) := by
  intro x hx
  rcases List.mem_cons.1 hx with rfl | hx
  · exact ⟨h.num.1, h.num.2.1⟩
  · unfold manyOf at hx
    obtain ⟨s, hs, rfl⟩ := List.mem_map.1 hx
    unfold rowsSp at hs
    obtain ⟨r, hr, hs⟩ := List.mem_flatMap.1 hs
    have hl : U64 (lensOf F r.1) := by
      unfold lensOf
      cases hh : F.sh r.1 with
      | none => intro x hx; cases hx
      | some s => exact (h.small _ _ hh).2.2.2.2
    have := newSp_mem (hu r hr) hl hs
    omega
end Go.Proofs.Ytabanackdjlcmaa
