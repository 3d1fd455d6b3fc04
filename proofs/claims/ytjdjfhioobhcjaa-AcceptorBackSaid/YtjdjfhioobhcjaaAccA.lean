/-
  Arguments of package acceptor's laws: rows of votes.
-/
import Derived.Test.YtjdjfhioobhcjaaAccL
import Derived.Deep.Slices
namespace Go.Proofs.Ytjdjfhioobhcjaa
open Go.ChangeShapes Go.WideShapes Go.ChangeAt Go.RowKit Go.Maps
set_option maxRecDepth 100000

instance : Inhabited Vt := ⟨⟨0, 0, []⟩⟩
def VtW (x : Vt) : Prop := U1 x.slot ∧ U1 x.ballot ∧ U8 x.val
def VtAt (w : World) (a : Addr) (i : Nat) (x : Vt) : Prop := ∃ sv, w.cell? (a.add (i * 3)) = some (.int .u64 x.slot) ∧ w.cell? ⟨(a.add (i * 3)).block, (a.add (i * 3)).off + 1, none⟩ = some (.int .u64 x.ballot) ∧
  w.cell? ⟨(a.add (i * 3)).block, (a.add (i * 3)).off + 2, none⟩ = some sv ∧ SlR w sv (u8s x.val)
theorem arg_vts {H : Type} {enc : TypeId × Value → H} {P : Program} {W : World} {t e eb : TypeId} {f0 f1 f2 : Field} {v : Value} {d : DataW H} {ps : List MemPlace} {r : Reach} {b0 : Nat}
    (ht : P.underlying t = some (.slice e)) (he : P.underlying e = some (.struct #[f0, f1, f2])) (ce : P.cellsOf e = 3)
    (o : f0.offset = 0 ∧ f1.offset = 1 ∧ f2.offset = 2) (c : P.cellsOf f0.type = 1 ∧ P.cellsOf f1.type = 1 ∧ P.cellsOf f2.type = 1)
    (t0 : P.underlying f0.type = some (.int .u64)) (t1 : P.underlying f1.type = some (.int .u64)) (t2 : P.underlying f2.type = some (.slice eb)) (tb : P.underlying eb = some (.int .u8)) (cb : P.cellsOf eb = 1)
    (hval : Value.okWide P W r b0 t v) (h : DataW.Trod enc P W 0 (fun _ => true) true t v d ps) : ∃ L : List Vt, VtL W v L ∧ ∀ x ∈ L, VtW x := by
  obtain ⟨o0, o1, o2⟩ := o
  obtain ⟨c0, c1, c2⟩ := c
  obtain ⟨a0, len0, cap0, rfl⟩ := WideShapes.okWide_slice ht hval
  obtain ⟨fuel, hf⟩ := h
  rcases Deep.open_slice ht hf with ⟨hcs, _⟩ | ⟨a, len, cap, m, n, D, Pl, hcs, _, hl, hm, hmm, _, hx⟩
  · simp [Value.cells] at hcs
    obtain ⟨rfl, rfl, rfl⟩ := hcs
    exact ⟨[], VtL.nil W, by simp⟩
  · simp [Value.cells] at hcs
    obtain ⟨rfl, rfl, rfl⟩ := hcs
    have hlm : len0 ≤ m := by rw [hmm]; split <;> omega
    have each : ∀ i, i < len0 → ∃ x : Vt, VtAt W a i x ∧ VtW x := by
      intro i hi
      obtain ⟨cs', h1, h2⟩ := hx i (by omega)
      rw [ce] at h1
      obtain ⟨_, hlen, hcell⟩ := World.cells?_some h1
      obtain ⟨xs, k, hk, hxy, _, hxl, hf⟩ := DataW.trod_struct he h2
      match xs, hxl, cs', hlen with
      | [y0, y1, y2], _, [v0, v1, v2], _ =>
        have g0 := hf 0 f0 rfl
        have g1 := hf 1 f1 rfl
        have g2 := hf 2 f2 rfl
        simp [o0, o1, o2, c0, c1, c2] at g0 g1 g2
        have e0 := hcell 0 (by omega)
        have e1 := hcell 1 (by omega)
        have e2 := hcell 2 (by omega)
        simp only [List.getElem?_cons_zero, List.getElem?_cons_succ] at e0 e1 e2
        obtain ⟨n0, q0, _, w0⟩ := DataW.trod_int t0 g0
        obtain ⟨n1, q1, _, w1⟩ := DataW.trod_int t1 g1
        cases q0; cases q1
        simp [Lit.wf, IntKind.min, IntKind.max, IntKind.signed, IntKind.bits] at w0 w1
        obtain ⟨xs, hs, hu⟩ : ∃ xs : List Int, SlR W v2 (u8s xs) ∧ U8 xs := by
          rcases open_ints t2 tb cb g2 with ⟨hcs, _⟩ | ⟨a', len', cap', zs, hcs, _, hl', hm', hz, _, hcell', hwz⟩
          · cases hcs
            exact ⟨[], SlR.nil W, by intro x hx; cases hx⟩
          · cases hcs
            exact ⟨zs.take len', SlR.of_cells hl' hm' (by simpa using hz) hcell', u8_of_wf (fun x hx => hwz x (List.mem_of_mem_take hx))⟩
        refine ⟨⟨n0, n1, xs⟩, ⟨v2, ?_, ?_, ?_, hs⟩, ⟨(show U1 n0 from w0), (show U1 n1 from w1), hu⟩⟩
        · simpa [Addr.add] using e0
        · rw [add_more _ _ _ (by omega)]; simpa [Deep.add_add] using e1
        · rw [add_more _ _ _ (by omega)]; simpa [Deep.add_add] using e2
    obtain ⟨q, hq⟩ := Deep.choose_lt each
    refine ⟨(List.range len0).map q, ⟨some a, cap0, by simp, by simpa using hl, by unfold maxLen at hm; omega, fun i x hi => ?_⟩, fun x hx => ?_⟩
    · have hi2 : i < len0 := by have := (List.getElem?_eq_some_iff.1 hi).1; simpa using this
      simp [hi2] at hi
      subst hi
      obtain ⟨sv, h1, h2, h3, h4⟩ := (hq i hi2).1
      exact ⟨a, sv, rfl, h1, h2, h3, h4⟩
    · obtain ⟨j, hj, rfl⟩ := List.mem_map.1 hx
      exact (hq j (List.mem_range.1 hj)).2
theorem Try.vt_open {H : Type} {enc : TypeId × Value → H} {W : World} {v : Value} {d : DataW H} {ps : List MemPlace} {r : Reach} {b0 : Nat} (hval : Value.okWide Try.prog W r b0 33 v)
    (h : DataW.Trod enc Try.prog W 0 (fun _ => true) true 33 v d ps) : ∃ L : List Vt, VtL W v L ∧ ∀ x ∈ L, VtW x :=
  arg_vts Try.underlying33 Try.underlying39 (by kernel_rfl) ⟨rfl, rfl, rfl⟩ ⟨by kernel_rfl, by kernel_rfl, by kernel_rfl⟩ Try.underlying29 Try.underlying29 Try.underlying30 Try.underlying5 (by kernel_rfl) hval h
end Go.Proofs.Ytjdjfhioobhcjaa
