/-
  Arguments of package leader's laws: rows of what is done.
-/
import Derived.Test.YtjdjfhioobhcjaaSepB
import Derived.Deep.Slices
namespace Go.Proofs.Ytjdjfhioobhcjaa
open Go.ChangeShapes Go.WideShapes Go.ChangeAt Go.RowKit Go.Maps
set_option maxRecDepth 100000

instance : Inhabited Vt := ⟨⟨0, 0, []⟩⟩
def VtW (x : Vt) : Prop := U1 x.slot ∧ U1 x.ballot ∧ U8 x.val
def VtAt (w : World) (a : Addr) (i : Nat) (x : Vt) : Prop := ∃ sv, w.cell? (a.add (i * 3)) = some (.int .u64 x.slot) ∧ w.cell? ⟨(a.add (i * 3)).block, (a.add (i * 3)).off + 1, none⟩ = some (.int .u64 x.ballot) ∧
  w.cell? ⟨(a.add (i * 3)).block, (a.add (i * 3)).off + 2, none⟩ = some sv ∧ SlR w sv (u8s x.val)
theorem arg_vts {H : Type} {enc : TypeId × Value → H} {P : Program} {W : World} {t e eb : TypeId} {f0 f1 f2 : Field} {v : Value} {d : DataW H} {ps : List MemPlace} {r : Reach} {b0 : Nat}
    (ht : P.underlying t = some (.slice e)) (he : P.underlying e = some (.struct #[f0, f1, f2])) (ce : P.cellsOf e = 3)
    (o : f0.offset = 0 ∧ f1.offset = 1 ∧ f2.offset = 2) (c : P.cellsOf f0.type = 1 ∧ P.cellsOf f1.type = 1 ∧ P.cellsOf f2.type = 1)
    (t0 : P.underlying f0.type = some (.int .u64)) (t1 : P.underlying f1.type = some (.int .u64)) (t2 : P.underlying f2.type = some (.slice eb)) (tb : P.underlying eb = some (.int .u8)) (cb : P.cellsOf eb = 1)
    (hval : Value.okWide P W r b0 t v) (h : DataW.Trod enc P W 0 (fun _ => true) true t v d ps) : ∃ L : List Vt, VtL W v L ∧ ∀ x ∈ L, VtW x := by
  obtain ⟨o0, o1, o2⟩ := o
  obtain ⟨c0, c1, c2⟩ := c
  obtain ⟨a0, len0, cap0, rfl⟩ := WideShapes.okWide_slice ht hval
  obtain ⟨fuel, hf⟩ := h
  rcases Deep.open_slice ht hf with ⟨hcs, _⟩ | ⟨a, len, cap, m, n, D, Pl, hcs, _, hl, hm, hmm, _, hx⟩
  · simp [Value.cells] at hcs
    obtain ⟨rfl, rfl, rfl⟩ := hcs
    exact ⟨[], VtL.nil W, by simp⟩
  · simp [Value.cells] at hcs
    obtain ⟨rfl, rfl, rfl⟩ := hcs
    have hlm : len0 ≤ m := by rw [hmm]; split <;> omega
    have each : ∀ i, i < len0 → ∃ x : Vt, VtAt W a i x ∧ VtW x := by
      intro i hi
      obtain ⟨cs', h1, h2⟩ := hx i (by omega)
      rw [ce] at h1
      obtain ⟨_, hlen, hcell⟩ := World.cells?_some h1
      obtain ⟨xs, k, hk, hxy, _, hxl, hf⟩ := DataW.trod_struct he h2
      match xs, hxl, cs', hlen with
      | [y0, y1, y2], _, [v0, v1, v2], _ =>
        have g0 := hf 0 f0 rfl
        have g1 := hf 1 f1 rfl
        have g2 := hf 2 f2 rfl
        simp [o0, o1, o2, c0, c1, c2] at g0 g1 g2
        have e0 := hcell 0 (by omega)
        have e1 := hcell 1 (by omega)
        have e2 := hcell 2 (by omega)
        simp only [List.getElem?_cons_zero, List.getElem?_cons_succ] at e0 e1 e2
        obtain ⟨n0, q0, _, w0⟩ := DataW.trod_int t0 g0
        obtain ⟨n1, q1, _, w1⟩ := DataW.trod_int t1 g1
        cases q0; cases q1
        simp [Lit.wf, IntKind.min, IntKind.max, IntKind.signed, IntKind.bits] at w0 w1
        obtain ⟨xs, hs, hu⟩ : ∃ xs : List Int, SlR W v2 (u8s xs) ∧ U8 xs := by
          rcases open_ints t2 tb cb g2 with ⟨hcs, _⟩ | ⟨a', len', cap', zs, hcs, _, hl', hm', hz, _, hcell', hwz⟩
          · cases hcs
            exact ⟨[], SlR.nil W, by intro x hx; cases hx⟩
          · cases hcs
            exact ⟨zs.take len', SlR.of_cells hl' hm' (by simpa using hz) hcell', u8_of_wf (fun x hx => hwz x (List.mem_of_mem_take hx))⟩
        refine ⟨⟨n0, n1, xs⟩, ⟨v2, ?_, ?_, ?_, hs⟩, ⟨(show U1 n0 from w0), (show U1 n1 from w1), hu⟩⟩
        · simpa [Addr.add] using e0
        · rw [add_more _ _ _ (by omega)]; simpa [Deep.add_add] using e1
        · rw [add_more _ _ _ (by omega)]; simpa [Deep.add_add] using e2
    obtain ⟨q, hq⟩ := Deep.choose_lt each
    refine ⟨(List.range len0).map q, ⟨some a, cap0, by simp, by simpa using hl, by unfold maxLen at hm; omega, fun i x hi => ?_⟩, fun x hx => ?_⟩
    · have hi2 : i < len0 := by have := (List.getElem?_eq_some_iff.1 hi).1; simpa using this
      simp [hi2] at hi
      subst hi
      obtain ⟨sv, h1, h2, h3, h4⟩ := (hq i hi2).1
      exact ⟨a, sv, rfl, h1, h2, h3, h4⟩
    · obtain ⟨j, hj, rfl⟩ := List.mem_map.1 hx
      exact (hq j (List.mem_range.1 hj)).2
theorem Try.vt_open {H : Type} {enc : TypeId × Value → H} {W : World} {v : Value} {d : DataW H} {ps : List MemPlace} {r : Reach} {b0 : Nat} (hval : Value.okWide Try.prog W r b0 33 v)
    (h : DataW.Trod enc Try.prog W 0 (fun _ => true) true 33 v d ps) : ∃ L : List Vt, VtL W v L ∧ ∀ x ∈ L, VtW x :=
  arg_vts Try.underlying33 Try.underlying39 (by kernel_rfl) ⟨rfl, rfl, rfl⟩ ⟨by kernel_rfl, by kernel_rfl, by kernel_rfl⟩ Try.underlying29 Try.underlying29 Try.underlying30 Try.underlying5 (by kernel_rfl) hval h
end Go.Proofs.Ytjdjfhioobhcjaa

namespace Go.Proofs.Ytjdjfhioobhcjaa
open Go.ChangeShapes Go.WideShapes Go.ChangeAt Go.RowKit Go.Maps
set_option maxRecDepth 100000

theorem open_vts1 {H : Type} {enc : TypeId × Value → H} {P : Program} {W : World} {t e eb : TypeId} {f0 f1 f2 : Field} {v : Value} {fu : Nat} {y : DataW H × List MemPlace}
    (ht : P.underlying t = some (.slice e)) (he : P.underlying e = some (.struct #[f0, f1, f2])) (ce : P.cellsOf e = 3)
    (o : f0.offset = 0 ∧ f1.offset = 1 ∧ f2.offset = 2) (c : P.cellsOf f0.type = 1 ∧ P.cellsOf f1.type = 1 ∧ P.cellsOf f2.type = 1)
    (t0 : P.underlying f0.type = some (.int .u64)) (t1 : P.underlying f1.type = some (.int .u64)) (t2 : P.underlying f2.type = some (.slice eb)) (tb : P.underlying eb = some (.int .u8)) (cb : P.cellsOf eb = 1)
    (hf : DataW.trod enc P W 0 (fun _ => true) true fu t [v] = some y) : ∃ L : List Vt, VtL W v L ∧ ∀ x ∈ L, VtW x := by
  obtain ⟨o0, o1, o2⟩ := o
  obtain ⟨c0, c1, c2⟩ := c
  rcases Deep.open_slice ht hf with ⟨hcs, _⟩ | ⟨a, len0, cap0, m, n, D, Pl, hcs, _, hl, hm, hmm, _, hx⟩
  · cases hcs
    exact ⟨[], VtL.nil W, by simp⟩
  · cases hcs
    have hlm : len0 ≤ m := by rw [hmm]; split <;> omega
    have each : ∀ i, i < len0 → ∃ x : Vt, VtAt W a i x ∧ VtW x := by
      intro i hi
      obtain ⟨cs', h1, h2⟩ := hx i (by omega)
      rw [ce] at h1
      obtain ⟨_, hlen, hcell⟩ := World.cells?_some h1
      obtain ⟨xs, k, hk, hxy, _, hxl, hf⟩ := DataW.trod_struct he h2
      match xs, hxl, cs', hlen with
      | [y0, y1, y2], _, [v0, v1, v2], _ =>
        have g0 := hf 0 f0 rfl
        have g1 := hf 1 f1 rfl
        have g2 := hf 2 f2 rfl
        simp [o0, o1, o2, c0, c1, c2] at g0 g1 g2
        have e0 := hcell 0 (by omega)
        have e1 := hcell 1 (by omega)
        have e2 := hcell 2 (by omega)
        simp only [List.getElem?_cons_zero, List.getElem?_cons_succ] at e0 e1 e2
        obtain ⟨n0, q0, _, w0⟩ := DataW.trod_int t0 g0
        obtain ⟨n1, q1, _, w1⟩ := DataW.trod_int t1 g1
        cases q0; cases q1
        simp [Lit.wf, IntKind.min, IntKind.max, IntKind.signed, IntKind.bits] at w0 w1
        obtain ⟨xs, hs, hu⟩ : ∃ xs : List Int, SlR W v2 (u8s xs) ∧ U8 xs := by
          rcases open_ints t2 tb cb g2 with ⟨hcs, _⟩ | ⟨a', len', cap', zs, hcs, _, hl', hm', hz, _, hcell', hwz⟩
          · cases hcs
            exact ⟨[], SlR.nil W, by intro x hx; cases hx⟩
          · cases hcs
            exact ⟨zs.take len', SlR.of_cells hl' hm' (by simpa using hz) hcell', u8_of_wf (fun x hx => hwz x (List.mem_of_mem_take hx))⟩
        refine ⟨⟨n0, n1, xs⟩, ⟨v2, ?_, ?_, ?_, hs⟩, ⟨(show U1 n0 from w0), (show U1 n1 from w1), hu⟩⟩
        · simpa [Addr.add] using e0
        · rw [add_more _ _ _ (by omega)]; simpa [Deep.add_add] using e1
        · rw [add_more _ _ _ (by omega)]; simpa [Deep.add_add] using e2
    obtain ⟨q, hq⟩ := Deep.choose_lt each
    refine ⟨(List.range len0).map q, ⟨some a, cap0, by simp, by simpa using hl, by unfold maxLen at hm; omega, fun i x hi => ?_⟩, fun x hx => ?_⟩
    · have hi2 : i < len0 := by have := (List.getElem?_eq_some_iff.1 hi).1; simpa using this
      simp [hi2] at hi
      subst hi
      obtain ⟨sv, h1, h2, h3, h4⟩ := (hq i hi2).1
      exact ⟨a, sv, rfl, h1, h2, h3, h4⟩
    · obtain ⟨j, hj, rfl⟩ := List.mem_map.1 hx
      exact (hq j (List.mem_range.1 hj)).2

/-- What is done, raw. -/
structure Lc where
  kind : Int
  node : Int
  ballot : Int
  slot : Int
  low : Int
  val : List Int
  vts : List Vt
instance : Inhabited Lc := ⟨⟨0, 0, 0, 0, 0, [], []⟩⟩
def LcOk (x : Lc) : Prop := (-9223372036854775808 ≤ x.kind ∧ x.kind ≤ 9223372036854775807) ∧ (-9223372036854775808 ≤ x.node ∧ x.node ≤ 9223372036854775807) ∧ U1 x.ballot ∧ U1 x.slot ∧ U1 x.low ∧ U8 x.val ∧ ∀ v ∈ x.vts, VtW v
/-- How one lies. -/
def LcAt (w : World) (a : Addr) (i : Nat) (x : Lc) : Prop := ∃ sv vv, w.cell? (a.add (i * 7)) = some (.int .i64 x.kind) ∧ w.cell? ⟨(a.add (i * 7)).block, (a.add (i * 7)).off + 1, none⟩ = some (.int .i64 x.node) ∧
  w.cell? ⟨(a.add (i * 7)).block, (a.add (i * 7)).off + 2, none⟩ = some (.int .u64 x.ballot) ∧ w.cell? ⟨(a.add (i * 7)).block, (a.add (i * 7)).off + 3, none⟩ = some (.int .u64 x.slot) ∧
  w.cell? ⟨(a.add (i * 7)).block, (a.add (i * 7)).off + 4, none⟩ = some (.int .u64 x.low) ∧ w.cell? ⟨(a.add (i * 7)).block, (a.add (i * 7)).off + 5, none⟩ = some sv ∧
  w.cell? ⟨(a.add (i * 7)).block, (a.add (i * 7)).off + 6, none⟩ = some vv ∧ SlR w sv (u8s x.val) ∧ VtL w vv x.vts
def LcL (w : World) (v : Value) (L : List Lc) : Prop := ∃ ao c, v = .slice ao L.length c ∧ L.length ≤ c ∧ c ≤ 9223372036854775807 ∧ ∀ (i : Nat) x, L[i]? = some x → ∃ a, ao = some a ∧ LcAt w a i x
theorem LcL.nil (w : World) : LcL w (.slice none 0 0) [] := ⟨none, 0, rfl, Nat.le_refl _, by omega, by simp⟩
theorem arg_lcs {H : Type} {enc : TypeId × Value → H} {P : Program} {W : World} {t e eb tv ev : TypeId} {f0 f1 f2 f3 f4 f5 f6 g0 g1 g2 : Field} {v : Value} {d : DataW H} {ps : List MemPlace} {r : Reach} {b0 : Nat}
    (ht : P.underlying t = some (.slice e)) (he : P.underlying e = some (.struct #[f0, f1, f2, f3, f4, f5, f6])) (ce : P.cellsOf e = 7)
    (o : f0.offset = 0 ∧ f1.offset = 1 ∧ f2.offset = 2 ∧ f3.offset = 3 ∧ f4.offset = 4 ∧ f5.offset = 5 ∧ f6.offset = 6) (c : P.cellsOf f0.type = 1 ∧ P.cellsOf f1.type = 1 ∧ P.cellsOf f2.type = 1 ∧ P.cellsOf f3.type = 1 ∧ P.cellsOf f4.type = 1 ∧ P.cellsOf f5.type = 1 ∧ P.cellsOf f6.type = 1)
    (t0 : P.underlying f0.type = some (.int .i64)) (t1 : P.underlying f1.type = some (.int .i64)) (t2 : P.underlying f2.type = some (.int .u64)) (t3 : P.underlying f3.type = some (.int .u64)) (t4 : P.underlying f4.type = some (.int .u64))
    (t5 : P.underlying f5.type = some (.slice eb)) (tb : P.underlying eb = some (.int .u8)) (cb : P.cellsOf eb = 1) (t6 : f6.type = tv) (ht6 : P.underlying tv = some (.slice ev))
    (he6 : P.underlying ev = some (.struct #[g0, g1, g2])) (ce6 : P.cellsOf ev = 3)
    (o6 : g0.offset = 0 ∧ g1.offset = 1 ∧ g2.offset = 2) (c6 : P.cellsOf g0.type = 1 ∧ P.cellsOf g1.type = 1 ∧ P.cellsOf g2.type = 1)
    (s0 : P.underlying g0.type = some (.int .u64)) (s1 : P.underlying g1.type = some (.int .u64)) (s2 : P.underlying g2.type = some (.slice eb))
    (hval : Value.okWide P W r b0 t v) (h : DataW.Trod enc P W 0 (fun _ => true) true t v d ps) : ∃ L : List Lc, LcL W v L ∧ ∀ x ∈ L, LcOk x := by
  obtain ⟨o0, o1, o2, o3, o4, o5, oo6⟩ := o
  obtain ⟨c0, c1, c2, c3, c4, c5, cc6⟩ := c
  obtain ⟨a0, len0, cap0, rfl⟩ := WideShapes.okWide_slice ht hval
  obtain ⟨fuel, hf⟩ := h
  rcases Deep.open_slice ht hf with ⟨hcs, _⟩ | ⟨a, len, cap, m, n, D, Pl, hcs, _, hl, hm, hmm, _, hx⟩
  · simp [Value.cells] at hcs
    obtain ⟨rfl, rfl, rfl⟩ := hcs
    exact ⟨[], LcL.nil W, by simp⟩
  · simp [Value.cells] at hcs
    obtain ⟨rfl, rfl, rfl⟩ := hcs
    have hlm : len0 ≤ m := by rw [hmm]; split <;> omega
    have each : ∀ i, i < len0 → ∃ x : Lc, LcAt W a i x ∧ LcOk x := by
      intro i hi
      obtain ⟨cs', h1, h2⟩ := hx i (by omega)
      rw [ce] at h1
      obtain ⟨_, hlen, hcell⟩ := World.cells?_some h1
      obtain ⟨xs, k, hk, hxy, _, hxl, hf⟩ := DataW.trod_struct he h2
      match xs, hxl, cs', hlen with
      | [y0, y1, y2, y3, y4, y5, y6], _, [v0, v1, v2, v3, v4, v5, v6], _ =>
        have g0 := hf 0 f0 rfl
        have g1 := hf 1 f1 rfl
        have g2 := hf 2 f2 rfl
        have g3 := hf 3 f3 rfl
        have g4 := hf 4 f4 rfl
        have g5 := hf 5 f5 rfl
        have g6 := hf 6 f6 rfl
        simp [o0, o1, o2, o3, o4, o5, oo6, c0, c1, c2, c3, c4, c5, cc6] at g0 g1 g2 g3 g4 g5 g6
        have e0 := hcell 0 (by omega)
        have e1 := hcell 1 (by omega)
        have e2 := hcell 2 (by omega)
        have e3 := hcell 3 (by omega)
        have e4 := hcell 4 (by omega)
        have e5 := hcell 5 (by omega)
        have e6 := hcell 6 (by omega)
        simp only [List.getElem?_cons_zero, List.getElem?_cons_succ] at e0 e1 e2 e3 e4 e5 e6
        obtain ⟨n0, q0, _, w0⟩ := DataW.trod_int t0 g0
        obtain ⟨n1, q1, _, w1⟩ := DataW.trod_int t1 g1
        obtain ⟨n2, q2, _, w2⟩ := DataW.trod_int t2 g2
        obtain ⟨n3, q3, _, w3⟩ := DataW.trod_int t3 g3
        obtain ⟨n4, q4, _, w4⟩ := DataW.trod_int t4 g4
        cases q0; cases q1; cases q2; cases q3; cases q4
        simp [Lit.wf, IntKind.min, IntKind.max, IntKind.signed, IntKind.bits] at w0 w1 w2 w3 w4
        obtain ⟨xs, hs, hu⟩ : ∃ xs : List Int, SlR W v5 (u8s xs) ∧ U8 xs := by
          rcases open_ints t5 tb cb g5 with ⟨hcs, _⟩ | ⟨a', len', cap', zs, hcs, _, hl', hm', hz, _, hcell', hwz⟩
          · cases hcs
            exact ⟨[], SlR.nil W, by intro x hx; cases hx⟩
          · cases hcs
            exact ⟨zs.take len', SlR.of_cells hl' hm' (by simpa using hz) hcell', u8_of_wf (fun x hx => hwz x (List.mem_of_mem_take hx))⟩
        obtain ⟨vs, hvs, hvu⟩ : ∃ vs : List Vt, VtL W v6 vs ∧ ∀ x ∈ vs, VtW x := by
          rw [t6] at g6
          exact open_vts1 ht6 he6 ce6 o6 c6 s0 s1 s2 tb cb g6
        refine ⟨⟨n0, n1, n2, n3, n4, xs, vs⟩, ⟨v5, v6, ?_, ?_, ?_, ?_, ?_, ?_, ?_, hs, hvs⟩, ⟨w0, w1, (show U1 n2 from w2), (show U1 n3 from w3), (show U1 n4 from w4), hu, hvu⟩⟩
        · simpa [Addr.add] using e0
        · rw [add_more _ _ _ (by omega)]; simpa [Deep.add_add] using e1
        · rw [add_more _ _ _ (by omega)]; simpa [Deep.add_add] using e2
        · rw [add_more _ _ _ (by omega)]; simpa [Deep.add_add] using e3
        · rw [add_more _ _ _ (by omega)]; simpa [Deep.add_add] using e4
        · rw [add_more _ _ _ (by omega)]; simpa [Deep.add_add] using e5
        · rw [add_more _ _ _ (by omega)]; simpa [Deep.add_add] using e6
    obtain ⟨q, hq⟩ := Deep.choose_lt each
    refine ⟨(List.range len0).map q, ⟨some a, cap0, by simp, by simpa using hl, by unfold maxLen at hm; omega, fun i x hi => ⟨a, rfl, ?_⟩⟩, fun x hx => ?_⟩
    · have hi2 : i < len0 := by have := (List.getElem?_eq_some_iff.1 hi).1; simpa using this
      simp [hi2] at hi
      subst hi
      exact (hq i hi2).1
    · obtain ⟨j, hj, rfl⟩ := List.mem_map.1 hx
      exact (hq j (List.mem_range.1 hj)).2
theorem Try.lc_open {H : Type} {enc : TypeId × Value → H} {W : World} {v : Value} {d : DataW H} {ps : List MemPlace} {r : Reach} {b0 : Nat} (hval : Value.okWide Try.prog W r b0 60 v)
    (h : DataW.Trod enc Try.prog W 0 (fun _ => true) true 60 v d ps) : ∃ L : List Lc, LcL W v L ∧ ∀ x ∈ L, LcOk x :=
  arg_lcs (tv := 33) Try.underlying60 Try.underlying68 (by kernel_rfl) ⟨rfl, rfl, rfl, rfl, rfl, rfl, rfl⟩ ⟨by kernel_rfl, by kernel_rfl, by kernel_rfl, by kernel_rfl, by kernel_rfl, by kernel_rfl, by kernel_rfl⟩ Try.underlying3 Try.underlying3 Try.underlying29 Try.underlying29 Try.underlying29 Try.underlying30 Try.underlying5 (by kernel_rfl) rfl Try.underlying33
    Try.underlying39 (by kernel_rfl) ⟨rfl, rfl, rfl⟩ ⟨by kernel_rfl, by kernel_rfl, by kernel_rfl⟩ Try.underlying29 Try.underlying29 Try.underlying30 hval h
end Go.Proofs.Ytjdjfhioobhcjaa
