/-
  Arguments of package acceptor's laws: rows of what is done.
-/
import Derived.Test.YtjdjfhioobhcjaaAccL
import Derived.Deep.Slices
namespace Go.Proofs.Ytjdjfhioobhcjaa
open Go.ChangeShapes Go.WideShapes Go.ChangeAt Go.RowKit Go.Maps
set_option maxRecDepth 100000

/-- What is done, raw. -/
structure Ac where
  kind : Int
  slot : Int
  ballot : Int
  val : List Int
instance : Inhabited Ac := ⟨⟨0, 0, 0, []⟩⟩
def AcOk (x : Ac) : Prop := (-9223372036854775808 ≤ x.kind ∧ x.kind ≤ 9223372036854775807) ∧ U1 x.slot ∧ U1 x.ballot ∧ U8 x.val
/-- How one lies. -/
def AcAt (w : World) (a : Addr) (i : Nat) (x : Ac) : Prop := ∃ sv, w.cell? (a.add (i * 4)) = some (.int .i64 x.kind) ∧ w.cell? ⟨(a.add (i * 4)).block, (a.add (i * 4)).off + 1, none⟩ = some (.int .u64 x.slot) ∧
  w.cell? ⟨(a.add (i * 4)).block, (a.add (i * 4)).off + 2, none⟩ = some (.int .u64 x.ballot) ∧ w.cell? ⟨(a.add (i * 4)).block, (a.add (i * 4)).off + 3, none⟩ = some sv ∧ SlR w sv (u8s x.val)
def ActL (w : World) (v : Value) (L : List Ac) : Prop := ∃ ao c, v = .slice ao L.length c ∧ L.length ≤ c ∧ c ≤ 9223372036854775807 ∧ ∀ (i : Nat) x, L[i]? = some x → ∃ a, ao = some a ∧ AcAt w a i x
theorem ActL.nil (w : World) : ActL w (.slice none 0 0) [] := ⟨none, 0, rfl, Nat.le_refl _, by omega, by simp⟩
theorem ActL.below {B : Nat} {w w' : World} {v : Value} {L : List Ac} (h : ActL w v L) (hb : Below B w w') (hB : w.heap.size ≤ B) : ActL w' v L := by
  obtain ⟨ao, c, e, h1, h2, hx⟩ := h
  refine ⟨ao, c, e, h1, h2, fun i x hi => ?_⟩
  obtain ⟨a, ha, sv, c0, c1, c2, c3, hs⟩ := hx i x hi
  refine ⟨a, ha, sv, ?_, ?_, ?_, ?_, hs.below hb hB⟩
  · rw [hb.cell (by have := World.block_lt_of_cell? w _ c0; omega)]; exact c0
  · rw [hb.cell (by have := World.block_lt_of_cell? w _ c1; omega)]; exact c1
  · rw [hb.cell (by have := World.block_lt_of_cell? w _ c2; omega)]; exact c2
  · rw [hb.cell (by have := World.block_lt_of_cell? w _ c3; omega)]; exact c3
theorem arg_acts {H : Type} {enc : TypeId × Value → H} {P : Program} {W : World} {t e eb : TypeId} {f0 f1 f2 f3 : Field} {v : Value} {d : DataW H} {ps : List MemPlace} {r : Reach} {b0 : Nat}
    (ht : P.underlying t = some (.slice e)) (he : P.underlying e = some (.struct #[f0, f1, f2, f3])) (ce : P.cellsOf e = 4)
    (o : f0.offset = 0 ∧ f1.offset = 1 ∧ f2.offset = 2 ∧ f3.offset = 3) (c : P.cellsOf f0.type = 1 ∧ P.cellsOf f1.type = 1 ∧ P.cellsOf f2.type = 1 ∧ P.cellsOf f3.type = 1)
    (t0 : P.underlying f0.type = some (.int .i64)) (t1 : P.underlying f1.type = some (.int .u64)) (t2 : P.underlying f2.type = some (.int .u64)) (t3 : P.underlying f3.type = some (.slice eb)) (tb : P.underlying eb = some (.int .u8)) (cb : P.cellsOf eb = 1)
    (hval : Value.okWide P W r b0 t v) (h : DataW.Trod enc P W 0 (fun _ => true) true t v d ps) : ∃ L : List Ac, ActL W v L ∧ ∀ x ∈ L, AcOk x := by
  obtain ⟨o0, o1, o2, o3⟩ := o
  obtain ⟨c0, c1, c2, c3⟩ := c
  obtain ⟨a0, len0, cap0, rfl⟩ := WideShapes.okWide_slice ht hval
  obtain ⟨fuel, hf⟩ := h
  rcases Deep.open_slice ht hf with ⟨hcs, _⟩ | ⟨a, len, cap, m, n, D, Pl, hcs, _, hl, hm, hmm, _, hx⟩
  · simp [Value.cells] at hcs
    obtain ⟨rfl, rfl, rfl⟩ := hcs
    exact ⟨[], ActL.nil W, by simp⟩
  · simp [Value.cells] at hcs
    obtain ⟨rfl, rfl, rfl⟩ := hcs
    have hlm : len0 ≤ m := by rw [hmm]; split <;> omega
    have each : ∀ i, i < len0 → ∃ x : Ac, AcAt W a i x ∧ AcOk x := by
      intro i hi
      obtain ⟨cs', h1, h2⟩ := hx i (by omega)
      rw [ce] at h1
      obtain ⟨_, hlen, hcell⟩ := World.cells?_some h1
      obtain ⟨xs, k, hk, hxy, _, hxl, hf⟩ := DataW.trod_struct he h2
      match xs, hxl, cs', hlen with
      | [y0, y1, y2, y3], _, [v0, v1, v2, v3], _ =>
        have g0 := hf 0 f0 rfl
        have g1 := hf 1 f1 rfl
        have g2 := hf 2 f2 rfl
        have g3 := hf 3 f3 rfl
        simp [o0, o1, o2, o3, c0, c1, c2, c3] at g0 g1 g2 g3
        have e0 := hcell 0 (by omega)
        have e1 := hcell 1 (by omega)
        have e2 := hcell 2 (by omega)
        have e3 := hcell 3 (by omega)
        simp only [List.getElem?_cons_zero, List.getElem?_cons_succ] at e0 e1 e2 e3
        obtain ⟨n0, q0, _, w0⟩ := DataW.trod_int t0 g0
        obtain ⟨n1, q1, _, w1⟩ := DataW.trod_int t1 g1
        obtain ⟨n2, q2, _, w2⟩ := DataW.trod_int t2 g2
        cases q0; cases q1; cases q2
        simp [Lit.wf, IntKind.min, IntKind.max, IntKind.signed, IntKind.bits] at w0 w1 w2
        obtain ⟨xs, hs, hu⟩ : ∃ xs : List Int, SlR W v3 (u8s xs) ∧ U8 xs := by
          rcases open_ints t3 tb cb g3 with ⟨hcs, _⟩ | ⟨a', len', cap', zs, hcs, _, hl', hm', hz, _, hcell', hwz⟩
          · cases hcs
            exact ⟨[], SlR.nil W, by intro x hx; cases hx⟩
          · cases hcs
            exact ⟨zs.take len', SlR.of_cells hl' hm' (by simpa using hz) hcell', u8_of_wf (fun x hx => hwz x (List.mem_of_mem_take hx))⟩
        refine ⟨⟨n0, n1, n2, xs⟩, ⟨v3, ?_, ?_, ?_, ?_, hs⟩, ⟨w0, (show U1 n1 from w1), (show U1 n2 from w2), hu⟩⟩
        · simpa [Addr.add] using e0
        · rw [add_more _ _ _ (by omega)]; simpa [Deep.add_add] using e1
        · rw [add_more _ _ _ (by omega)]; simpa [Deep.add_add] using e2
        · rw [add_more _ _ _ (by omega)]; simpa [Deep.add_add] using e3
    obtain ⟨q, hq⟩ := Deep.choose_lt each
    refine ⟨(List.range len0).map q, ⟨some a, cap0, by simp, by simpa using hl, by unfold maxLen at hm; omega, fun i x hi => ⟨a, rfl, ?_⟩⟩, fun x hx => ?_⟩
    · have hi2 : i < len0 := by have := (List.getElem?_eq_some_iff.1 hi).1; simpa using this
      simp [hi2] at hi
      subst hi
      exact (hq i hi2).1
    · obtain ⟨j, hj, rfl⟩ := List.mem_map.1 hx
      exact (hq j (List.mem_range.1 hj)).2
theorem Try.act_open {H : Type} {enc : TypeId × Value → H} {W : World} {v : Value} {d : DataW H} {ps : List MemPlace} {r : Reach} {b0 : Nat} (hval : Value.okWide Try.prog W r b0 22 v)
    (h : DataW.Trod enc Try.prog W 0 (fun _ => true) true 22 v d ps) : ∃ L : List Ac, ActL W v L ∧ ∀ x ∈ L, AcOk x :=
  arg_acts Try.underlying22 Try.underlying32 (by kernel_rfl) ⟨rfl, rfl, rfl, rfl⟩ ⟨by kernel_rfl, by kernel_rfl, by kernel_rfl, by kernel_rfl⟩ Try.underlying3 Try.underlying29 Try.underlying29 Try.underlying30 Try.underlying5 (by kernel_rfl) hval h
end Go.Proofs.Ytjdjfhioobhcjaa
