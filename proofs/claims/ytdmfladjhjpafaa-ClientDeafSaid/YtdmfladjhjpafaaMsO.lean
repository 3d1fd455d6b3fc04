/-
  A message as an argument.
-/
import Derived.Test.YtdmfladjhjpafaaCli5
import Derived.Lib.SmallJoins
namespace Go.Proofs.Ytdmfladjhjpafaa
open Go.ChangeShapes Go.WideShapes Go.ChangeAt Go.RowKit Go.Maps
set_option maxRecDepth 1000000

def I64 (x : Int) : Prop := -9223372036854775808 ≤ x ∧ x ≤ 9223372036854775807
structure MsOk (m : Ms) : Prop where
  kind : I64 m.kind
  ballot : U1 m.ballot
  slot : U1 m.slot
  sh : I64 m.sh
  sg : I64 m.sg
  client : U1 m.client
  seq : U1 m.seq
  pos : U1 m.pos
  code : I64 m.code
  body : U8 m.body
theorem open_slice {H : Type} {enc : TypeId × Value → H} {P : Program} {W : World} {t e : TypeId} {k : IntKind} {v : Value} {n : Nat} {y : DataW H × List MemPlace} (ht : P.underlying t = some (.slice e)) (he : P.underlying e = some (.int k)) (c : P.cellsOf e = 1)
    (h : DataW.trod enc P W 0 (fun _ => true) true n t [v] = some y) : ∃ xs : List Int, SlR W v (xs.map (Value.int k)) ∧ ∀ x ∈ xs, (Lit.int k x).wf = true := by
  rcases open_ints ht he c h with ⟨hcs, _⟩ | ⟨a', len', cap', zs, hcs, _, hl', hm', hz, _, hcell', hwz⟩
  · cases hcs
    exact ⟨[], SlR.nil W, by intro x hx; cases hx⟩
  · cases hcs
    exact ⟨zs.take len', SlR.of_cells hl' hm' (by simpa using hz) hcell', fun x hx => hwz x (List.mem_of_mem_take hx)⟩
theorem Try.msg_open {H : Type} {enc : TypeId × Value → H} {W : World} {v : Value} {d : DataW H} {ps : List MemPlace} {r : Reach} {b0 : Nat} (hval : Value.okWide Try.prog W r b0 39 v)
    (h : DataW.Trod enc Try.prog W 0 (fun _ => true) true 39 v d ps) : ∃ (m : Ms) (vv bv : Value), v = .agg (msC m vv bv) ∧ MsOk m ∧ SlR W vv (u64s m.vec) ∧ SlR W bv (u8s m.body) := by
  obtain ⟨cs, rfl, hsz⟩ := okWide_struct Try.underlying39 hval
  have hC : Try.prog.cellsOf 39 = 11 := by kernel_rfl
  rw [hC] at hsz
  obtain ⟨l⟩ := cs
  obtain ⟨fuel, hf⟩ := h
  obtain ⟨xs, n, hk, hxy, _, hxl, hg⟩ := DataW.trod_struct Try.underlying39 hf
  have k1 : Try.prog.cellsOf 3 = 1 := by kernel_rfl
  have k2 : Try.prog.cellsOf 28 = 1 := by kernel_rfl
  have k3 : Try.prog.cellsOf 37 = 1 := by kernel_rfl
  have k4 : Try.prog.cellsOf 22 = 1 := by kernel_rfl
  match xs, hxl, l, hsz with
  | [y0, y1, y2, y3, y4, y5, y6, y7, y8, y9, y10], _, [c0, c1, c2, c3, c4, c5, c6, c7, c8, c9, c10], _ =>
    have g0 := hg 0 _ rfl
    have g1 := hg 1 _ rfl
    have g2 := hg 2 _ rfl
    have g3 := hg 3 _ rfl
    have g4 := hg 4 _ rfl
    have g5 := hg 5 _ rfl
    have g6 := hg 6 _ rfl
    have g7 := hg 7 _ rfl
    have g8 := hg 8 _ rfl
    have g9 := hg 9 _ rfl
    have g10 := hg 10 _ rfl
    simp [Value.cells, k1, k2, k3, k4] at g0 g1 g2 g3 g4 g5 g6 g7 g8 g9 g10
    obtain ⟨n0, q0, _, w0⟩ := DataW.trod_int Try.underlying3 g0
    obtain ⟨n1, q1, _, w1⟩ := DataW.trod_int Try.underlying28 g1
    obtain ⟨n2, q2, _, w2⟩ := DataW.trod_int Try.underlying28 g2
    obtain ⟨n3, q3, _, w3⟩ := DataW.trod_int Try.underlying3 g3
    obtain ⟨n4, q4, _, w4⟩ := DataW.trod_int Try.underlying3 g4
    obtain ⟨n5, q5, _, w5⟩ := DataW.trod_int Try.underlying28 g5
    obtain ⟨n6, q6, _, w6⟩ := DataW.trod_int Try.underlying28 g6
    obtain ⟨n7, q7, _, w7⟩ := DataW.trod_int Try.underlying28 g7
    obtain ⟨n8, q8, _, w8⟩ := DataW.trod_int Try.underlying3 g8
    cases q0; cases q1; cases q2; cases q3; cases q4; cases q5; cases q6; cases q7; cases q8
    simp [Lit.wf, IntKind.min, IntKind.max, IntKind.signed, IntKind.bits] at w0 w1 w2 w3 w4 w5 w6 w7 w8
    obtain ⟨vs, hv1, _⟩ := open_slice Try.underlying37 Try.underlying28 (by kernel_rfl) g9
    obtain ⟨bs, hb1, hb2⟩ := open_slice Try.underlying22 Try.underlying5 (by kernel_rfl) g10
    exact ⟨⟨n0, n1, n2, n3, n4, n5, n6, n7, n8, vs, bs⟩, c9, c10, rfl, ⟨w0, w1, w2, w3, w4, w5, w6, w7, w8, u8_of_wf hb2⟩, hv1, hb1⟩
end Go.Proofs.Ytdmfladjhjpafaa
