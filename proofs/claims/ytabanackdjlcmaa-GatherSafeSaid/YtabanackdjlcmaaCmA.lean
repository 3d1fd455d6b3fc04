/-
  Arguments of package fold's laws: rows of commands.
-/
import Derived.Test.YtabanackdjlcmaaApl2
import Derived.Deep.Slices
namespace Go.Proofs.Ytabanackdjlcmaa
open Go.ChangeShapes Go.WideShapes Go.ChangeAt Go.RowKit Go.Maps
set_option maxRecDepth 100000

theorem open_ints1 {H : Type} {enc : TypeId × Value → H} {P : Program} {W : World} {t e : TypeId} {k : IntKind} {v : Value} {n : Nat} {y : DataW H × List MemPlace} (ht : P.underlying t = some (.slice e)) (he : P.underlying e = some (.int k)) (c : P.cellsOf e = 1)
    (h : DataW.trod enc P W 0 (fun _ => true) true n t [v] = some y) : ∃ xs : List Int, SlR W v (xs.map (Value.int k)) ∧ ∀ x ∈ xs, (Lit.int k x).wf = true := by
  rcases open_ints ht he c h with ⟨hcs, _⟩ | ⟨a', len', cap', zs, hcs, _, hl', hm', hz, _, hcell', hwz⟩
  · cases hcs
    exact ⟨[], SlR.nil W, by intro x hx; cases hx⟩
  · cases hcs
    exact ⟨zs.take len', SlR.of_cells hl' hm' (by simpa using hz) hcell', fun x hx => hwz x (List.mem_of_mem_take hx)⟩
theorem open_rws {H : Type} {enc : TypeId × Value → H} {P : Program} {W : World} {t e eb : TypeId} {f0 f1 : Field} {v : Value} {n : Nat} {y : DataW H × List MemPlace}
    (ht : P.underlying t = some (.slice e)) (he : P.underlying e = some (.struct #[f0, f1])) (ce : P.cellsOf e = 2) (o : f0.offset = 0 ∧ f1.offset = 1) (c : P.cellsOf f0.type = 1 ∧ P.cellsOf f1.type = 1)
    (t0 : P.underlying f0.type = some (.int .i64)) (t1 : P.underlying f1.type = some (.slice eb)) (tb : P.underlying eb = some (.int .u64)) (cb : P.cellsOf eb = 1)
    (h : DataW.trod enc P W 0 (fun _ => true) true n t [v] = some y) : ∃ rs : Rw, RowsL W v rs ∧ ∀ r ∈ rs, U64 r.2 := by
  obtain ⟨o0, o1⟩ := o
  obtain ⟨c0, c1⟩ := c
  rcases Deep.open_slice ht h with ⟨hcs, _⟩ | ⟨a, len0, cap0, m, n', D, Pl, hcs, _, hl, hm, hmm, _, hx⟩
  · cases hcs
    exact ⟨[], RowsL.nil W, by simp⟩
  · cases hcs
    have hlm : len0 ≤ m := by rw [hmm]; split <;> omega
    have each : ∀ i, i < len0 → ∃ x : Int × List Int, (∃ sv, W.cell? (a.add (i * 2)) = some (.int .i64 x.1) ∧ W.cell? ⟨(a.add (i * 2)).block, (a.add (i * 2)).off + 1, none⟩ = some sv ∧ SlR W sv (u64s x.2)) ∧ U64 x.2 := by
      intro i hi
      obtain ⟨cs', h1, h2⟩ := hx i (by omega)
      rw [ce] at h1
      obtain ⟨_, hlen, hcell⟩ := World.cells?_some h1
      obtain ⟨xs, k, hk, hxy, _, hxl, hf⟩ := DataW.trod_struct he h2
      match xs, hxl, cs', hlen with
      | [y0, y1], _, [v0, v1], _ =>
        have g0 := hf 0 f0 rfl
        have g1 := hf 1 f1 rfl
        simp [o0, o1, c0, c1] at g0 g1
        have e0 := hcell 0 (by omega)
        have e1 := hcell 1 (by omega)
        simp only [List.getElem?_cons_zero, List.getElem?_cons_succ] at e0 e1
        obtain ⟨n0, q0, _, w0⟩ := DataW.trod_int t0 g0
        cases q0
        obtain ⟨zs, hs, hu⟩ := open_ints1 t1 tb cb g1
        refine ⟨(n0, zs), ⟨v1, ?_, ?_, hs⟩, fun x hx => ?_⟩
        · simpa [Addr.add] using e0
        · rw [add_more _ _ _ (by omega)]; simpa [Deep.add_add] using e1
        · have := hu x hx
          simp [Lit.wf, IntKind.min, IntKind.max, IntKind.signed, IntKind.bits] at this
          exact this
    obtain ⟨q, hq⟩ := Deep.choose_lt each
    refine ⟨(List.range len0).map q, ⟨some a, cap0, by simp, by simpa using hl, by unfold maxLen at hm; omega, fun i x hi => ?_⟩, fun x hx => ?_⟩
    · have hi2 : i < len0 := by have := (List.getElem?_eq_some_iff.1 hi).1; simpa using this
      simp [hi2] at hi
      subst hi
      obtain ⟨sv, h1, h2, h3⟩ := (hq i hi2).1
      exact ⟨a, sv, rfl, h1, h2, h3⟩
    · obtain ⟨j, hj, rfl⟩ := List.mem_map.1 hx
      exact (hq j (List.mem_range.1 hj)).2
instance : Inhabited Cm := ⟨⟨0, 0, 0, 0, 0, 0, []⟩⟩
/-- How a command lies. -/
def CmAt (w : World) (a : Addr) (i : Nat) (x : Cm) : Prop := ∃ rv, w.cell? (a.add (i * 7)) = some (.int .i64 x.op) ∧ w.cell? ⟨(a.add (i * 7)).block, (a.add (i * 7)).off + 1, none⟩ = some (.int .u64 x.client) ∧ w.cell? ⟨(a.add (i * 7)).block, (a.add (i * 7)).off + 2, none⟩ = some (.int .u64 x.seq) ∧
  w.cell? ⟨(a.add (i * 7)).block, (a.add (i * 7)).off + 3, none⟩ = some (.int .i64 x.shard) ∧ w.cell? ⟨(a.add (i * 7)).block, (a.add (i * 7)).off + 4, none⟩ = some (.int .i64 x.segs) ∧ w.cell? ⟨(a.add (i * 7)).block, (a.add (i * 7)).off + 5, none⟩ = some (.int .u64 x.pos) ∧ w.cell? ⟨(a.add (i * 7)).block, (a.add (i * 7)).off + 6, none⟩ = some rv ∧ RowsL w rv x.rows
def CmL (w : World) (v : Value) (L : List Cm) : Prop := ∃ ao c, v = .slice ao L.length c ∧ L.length ≤ c ∧ c ≤ 9223372036854775807 ∧ ∀ (i : Nat) x, L[i]? = some x → ∃ a, ao = some a ∧ CmAt w a i x
theorem CmL.nil (w : World) : CmL w (.slice none 0 0) [] := ⟨none, 0, rfl, Nat.le_refl _, by omega, by simp⟩
theorem CmL.below {B : Nat} {w w' : World} {v : Value} {L : List Cm} (h : CmL w v L) (hb : Below B w w') (hB : w.heap.size ≤ B) : CmL w' v L := by
  obtain ⟨ao, c, e, h1, h2, hx⟩ := h
  refine ⟨ao, c, e, h1, h2, fun i x hi => ?_⟩
  obtain ⟨a, ha, rv, c0, c1, c2, c3, c4, c5, c6, hs⟩ := hx i x hi
  have go : ∀ {p : Addr} {u : Value}, w.cell? p = some u → w'.cell? p = some u := fun {p u} hc => by rw [hb.cell (by have := World.block_lt_of_cell? w _ hc; omega)]; exact hc
  exact ⟨a, ha, rv, go c0, go c1, go c2, go c3, go c4, go c5, go c6, hs.below hb hB⟩
theorem Try.cmds_open {H : Type} {enc : TypeId × Value → H} {W : World} {v : Value} {d : DataW H} {ps : List MemPlace} {r : Reach} {b0 : Nat} (hval : Value.okWide Try.prog W r b0 66 v)
    (h : DataW.Trod enc Try.prog W 0 (fun _ => true) true 66 v d ps) : ∃ L : List Cm, CmL W v L ∧ ∀ x ∈ L, CmOk x := by
  obtain ⟨a0, len0, cap0, rfl⟩ := WideShapes.okWide_slice Try.underlying66 hval
  have k1 : Try.prog.cellsOf 3 = 1 := by kernel_rfl
  have k2 : Try.prog.cellsOf 39 = 1 := by kernel_rfl
  have k3 : Try.prog.cellsOf 44 = 1 := by kernel_rfl
  have k4 : Try.prog.cellsOf 27 = 1 := by kernel_rfl
  have k5 : Try.prog.cellsOf 46 = 7 := by kernel_rfl
  have k6 : Try.prog.cellsOf 37 = 2 := by kernel_rfl
  obtain ⟨fuel, hf⟩ := h
  rcases Deep.open_slice Try.underlying66 hf with ⟨hcs, _⟩ | ⟨a, len, cap, m, n, D, Pl, hcs, _, hl, hm, hmm, _, hx⟩
  · simp [Value.cells] at hcs
    obtain ⟨rfl, rfl, rfl⟩ := hcs
    exact ⟨[], CmL.nil W, by simp⟩
  · simp [Value.cells] at hcs
    obtain ⟨rfl, rfl, rfl⟩ := hcs
    have hlm : len0 ≤ m := by rw [hmm]; split <;> omega
    have each : ∀ i, i < len0 → ∃ x : Cm, CmAt W a i x ∧ CmOk x := by
      intro i hi
      obtain ⟨cs', h1, h2⟩ := hx i (by omega)
      rw [k5] at h1
      obtain ⟨_, hlen, hcell⟩ := World.cells?_some h1
      obtain ⟨xs, k, hk, hxy, _, hxl, hg⟩ := DataW.trod_struct Try.underlying46 h2
      match xs, hxl, cs', hlen with
      | [y0, y1, y2, y3, y4, y5, y6], _, [v0, v1, v2, v3, v4, v5, v6], _ =>
        have g0 := hg 0 _ rfl
        have g1 := hg 1 _ rfl
        have g2 := hg 2 _ rfl
        have g3 := hg 3 _ rfl
        have g4 := hg 4 _ rfl
        have g5 := hg 5 _ rfl
        have g6 := hg 6 _ rfl
        simp [k1, k2, k3] at g0 g1 g2 g3 g4 g5 g6
        have e0 := hcell 0 (by omega)
        have e1 := hcell 1 (by omega)
        have e2 := hcell 2 (by omega)
        have e3 := hcell 3 (by omega)
        have e4 := hcell 4 (by omega)
        have e5 := hcell 5 (by omega)
        have e6 := hcell 6 (by omega)
        simp only [List.getElem?_cons_zero, List.getElem?_cons_succ] at e0 e1 e2 e3 e4 e5 e6
        obtain ⟨n0, q0, _, w0⟩ := DataW.trod_int Try.underlying3 g0
        obtain ⟨n1, q1, _, w1⟩ := DataW.trod_int Try.underlying39 g1
        obtain ⟨n2, q2, _, w2⟩ := DataW.trod_int Try.underlying39 g2
        obtain ⟨n3, q3, _, w3⟩ := DataW.trod_int Try.underlying3 g3
        obtain ⟨n4, q4, _, w4⟩ := DataW.trod_int Try.underlying3 g4
        obtain ⟨n5, q5, _, w5⟩ := DataW.trod_int Try.underlying39 g5
        cases q0; cases q1; cases q2; cases q3; cases q4; cases q5
        simp [Lit.wf, IntKind.min, IntKind.max, IntKind.signed, IntKind.bits] at w1 w2 w5
        obtain ⟨rs, hr1, hr2⟩ := open_rws Try.underlying44 Try.underlying37 k6 ⟨rfl, rfl⟩ ⟨k1, k4⟩ Try.underlying3 Try.underlying27 Try.underlying39 k2 g6
        refine ⟨⟨n0, n1, n2, n3, n4, n5, rs⟩, ⟨v6, ?_, ?_, ?_, ?_, ?_, ?_, ?_, hr1⟩, ⟨w1, w2, w5, hr2⟩⟩
        · simpa [Addr.add] using e0
        · rw [add_more _ _ _ (by omega)]; simpa [Deep.add_add] using e1
        · rw [add_more _ _ _ (by omega)]; simpa [Deep.add_add] using e2
        · rw [add_more _ _ _ (by omega)]; simpa [Deep.add_add] using e3
        · rw [add_more _ _ _ (by omega)]; simpa [Deep.add_add] using e4
        · rw [add_more _ _ _ (by omega)]; simpa [Deep.add_add] using e5
        · rw [add_more _ _ _ (by omega)]; simpa [Deep.add_add] using e6
    obtain ⟨q, hq⟩ := Deep.choose_lt each
    refine ⟨(List.range len0).map q, ⟨some a, cap0, by simp, by simpa using hl, by unfold maxLen at hm; omega, fun i x hi => ⟨a, rfl, ?_⟩⟩, fun x hx => ?_⟩
    · have hi2 : i < len0 := by have := (List.getElem?_eq_some_iff.1 hi).1; simpa using this
      simp [hi2] at hi
      subst hi
      exact (hq i hi2).1
    · obtain ⟨j, hj, rfl⟩ := List.mem_map.1 hx
      exact (hq j (List.mem_range.1 hj)).2
end Go.Proofs.Ytabanackdjlcmaa
