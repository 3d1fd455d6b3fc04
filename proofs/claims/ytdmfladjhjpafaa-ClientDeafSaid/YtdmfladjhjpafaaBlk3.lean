/-
  Structs of many fields at guarded operations; a result of two, the first in a cell. No program in sight.
-/
import Derived.Test.YtdmfladjhjpafaaBlk2
import Derived.BigFrame
namespace Go.Proofs.Ytdmfladjhjpafaa
open Go.ChangeShapes Go.WideShapes Go.ChangeAt Go.RowKit Go.Maps
section
variable {P : Program}
/-- A block that is known whole is read as a struct, behind a guard that says yes, too. -/
theorem wpList_loadRowW {ops : Array Oper} {rest : List Oper} {o : Oper} {a : Act} {w : World} {Q : Exit → Act → World → Prop} (hw : Region.wanted o (yielded ops a.tmps) = true) (ty : TypeId) (x : Operand) (ho : o.op = .load ty x)
    (g : Nat) (cells : Array Value) (t : TypeId) (hg : w.heap[g]? = some (.cells cells t (0, 0))) (hx : a.eval x = .pointer (some ⟨g, 0, none⟩)) (d : TypeDesc)
    (hu : P.underlying ty = some d) (hd : d.isRow = true) (hi : (P.info? ty).map (·.size) = some cells.size)
    (h : wpList P ops Q rest (a.put o.dst (.agg cells)) w) : wpList P ops Q (o :: rest) a w := by
  refine BigFrame.wpList_want hw fun K hK => ?_
  refine wp_load_mid ty x ho g 0 hx cells.toList d (fun j v hv => ?_) hu hd (by simpa using hi) (hK _ _ (by simpa using h))
  rw [Nat.zero_add]
  have h := World.news_of_block hg j v hv
  rwa [Addr.add_mid, Nat.zero_add] at h
/-- The end of a function with two results, the first of which is a struct in a cell. -/
theorem bodyPost_cell2 {fn : Func} {R : Ending → World → Prop} {a : Act} {w : World} {q r : Tmp} {ty : TypeId} (h : fn.results = #[.cell q ty, .tmp r]) (g : Nat) {cells : Array Value} {t : TypeId} (hp : a.tmps.getD q undef = .pointer (some ⟨g, 0, none⟩)) (v : Value) (hr : a.tmps.getD r undef = v) (hg : w.heap[g]? = some (.cells cells t (0, 0)))
    {d : TypeDesc} (hu : P.underlying ty = some d) (hd : d.isRow = true) (hi : (P.info? ty).map (·.size) = some cells.size) (hdf : a.defers = []) (hR : R (.returned (.tuple #[.agg cells, v])) w) : bodyPost P fn R .ret a w := by
  refine bodyPost_ret (v := .tuple #[.agg cells, v]) ?_ hdf hR
  have hl := run_loadRow (P := P) hg hu hd hi
  rw [Array.getD_eq_getD_getElem?] at hp hr
  simp [results, h, hp, hr, asAddr, hl]
end
end Go.Proofs.Ytdmfladjhjpafaa
