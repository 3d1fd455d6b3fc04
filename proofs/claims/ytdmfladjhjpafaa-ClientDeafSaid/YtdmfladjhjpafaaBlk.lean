/-
  Structs of many fields: built, laid into a block, read whole. No program in sight.
-/
import Derived.Test.YtdmfladjhjpafaaLib5
import Derived.Deep.MidRow
namespace Go.Proofs.Ytdmfladjhjpafaa
open Go.ChangeShapes Go.WideShapes Go.ChangeAt Go.RowKit Go.Maps

theorem setRow_alloc (w : World) (old cells : Array Value) (t : TypeId) : (w.alloc (.cells old t)).setRow w.heap.size cells = w.alloc (.cells cells t) := by
  unfold World.setRow World.alloc
  congr 1
  apply Array.ext_getElem?
  intro i
  simp only [Array.getElem?_modify, Array.getElem?_push]
  by_cases e : w.heap.size = i
  · subst e; simp
  · simp [e, Ne.symm e]
/-- Where a walk is to stop. -/
structure Stop (p : Prop) : Prop where
  out : p
section
variable {P : Program}
theorem stopLoad {ops : Array Oper} {rest : List Oper} {o : Oper} {a : Act} {w : World} {Q : Exit → Act → World → Prop} (t : TypeId) {x : Operand} (ho : o.op = .load t x) (h : Stop (wpList P ops Q (o :: rest) a w)) : wpList P ops Q (o :: rest) a w := h.out
theorem stopStore {ops : Array Oper} {rest : List Oper} {o : Oper} {a : Act} {w : World} {Q : Exit → Act → World → Prop} (t : TypeId) {x y : Operand} (ho : o.op = .store t x y) (h : Stop (wpList P ops Q (o :: rest) a w)) : wpList P ops Q (o :: rest) a w := h.out
theorem stopBuild {ops : Array Oper} {rest : List Oper} {o : Oper} {a : Act} {w : World} {Q : Exit → Act → World → Prop} (t : TypeId) {x : Array (Nat × Operand)} (ho : o.op = .build t x) (h : Stop (wpList P ops Q (o :: rest) a w)) : wpList P ops Q (o :: rest) a w := h.out
/-- A struct's value goes into the block that was made for it just now. -/
theorem wpList_fill {ops : Array Oper} {rest : List Oper} {o : Oper} {a : Act} {w : World} {Q : Exit → Act → World → Prop} (hgd : o.guard = none) (ty : TypeId) (x y : Operand) (ho : o.op = .store ty x y)
    (g : Nat) (hg : w.heap.size = g) (cells old : Array Value) (t : TypeId) (hx : a.eval x = .pointer (some ⟨g, 0, none⟩)) (hy : a.eval y = .agg cells)
    (hi : (P.info? ty).map (·.size) = some cells.size) (hold : old.size = cells.size) (h1 : cells.all (·.oneCell') = true)
    (h : wpList P ops Q rest (a.put o.dst undef) (w.alloc (.cells cells t))) : wpList P ops Q (o :: rest) a (w.alloc (.cells old t)) := by
  subst hg
  refine wpList_store_row hgd ty x y ho w.heap.size cells hx hy t old (heap_alloc_new w _) hi hold h1 ?_
  rw [setRow_alloc]
  exact h
/-- A struct is built: its cells written out. -/
theorem wpList_buildA {ops : Array Oper} {rest : List Oper} {o : Oper} {a : Act} {w : World} {Q : Exit → Act → World → Prop} (hg : o.guard = none) (t : TypeId) (parts : Array (Nat × Operand)) (ho : o.op = .build t parts)
    (cells : Array Value) (hf : P.built t (parts.map fun (i, x) => (i, a.eval x)).toList = some cells) (h : wpList P ops Q rest (a.put o.dst (.agg cells)) w) : wpList P ops Q (o :: rest) a w := by
  refine wpList_build hg t parts ho (by rw [hf]; rfl) ?_
  rw [hf]
  exact h
/-- A block that is known whole is read as a struct. -/
theorem wpList_loadRow {ops : Array Oper} {rest : List Oper} {o : Oper} {a : Act} {w : World} {Q : Exit → Act → World → Prop} (hgd : o.guard = none) (ty : TypeId) (x : Operand) (ho : o.op = .load ty x)
    (g : Nat) (cells : Array Value) (t : TypeId) (hg : w.heap[g]? = some (.cells cells t (0, 0))) (hx : a.eval x = .pointer (some ⟨g, 0, none⟩)) (d : TypeDesc)
    (hu : P.underlying ty = some d) (hd : d.isRow = true) (hi : (P.info? ty).map (·.size) = some cells.size)
    (h : wpList P ops Q rest (a.put o.dst (.agg cells)) w) : wpList P ops Q (o :: rest) a w := by
  refine wpList_load_mid hgd ty x ho g 0 hx cells.toList d (fun j v hv => ?_) hu hd (by simpa using hi) (by simpa using h)
  rw [Nat.zero_add]
  have h := World.news_of_block hg j v hv
  rwa [Addr.add_mid, Nat.zero_add] at h
/-- A block that is known whole, read. -/
theorem run_loadRow {w : World} {ty : TypeId} {g : Nat} {cells : Array Value} {t : TypeId} (hg : w.heap[g]? = some (.cells cells t (0, 0))) {d : TypeDesc} (hu : P.underlying ty = some d) (hd : d.isRow = true) (hi : (P.info? ty).map (·.size) = some cells.size) :
    (loadVar ty ⟨g, 0, none⟩).run P w = .ok (.agg cells) w := by
  have := run_loadVar_mid (P := P) w g 0 ty cells.toList d (fun j v hv => by
    rw [Nat.zero_add]
    have h := World.news_of_block hg j v hv
    rwa [Addr.add_mid, Nat.zero_add] at h) hu hd (by simpa using hi)
  simpa using this
/-- The end of a function whose one result is a struct in a cell. -/
theorem bodyPost_cell {fn : Func} {R : Ending → World → Prop} {a : Act} {w : World} {q : Tmp} {ty : TypeId} (h : fn.results = #[.cell q ty]) (g : Nat) {cells : Array Value} {t : TypeId} (hp : a.tmps.getD q undef = .pointer (some ⟨g, 0, none⟩)) (hg : w.heap[g]? = some (.cells cells t (0, 0)))
    {d : TypeDesc} (hu : P.underlying ty = some d) (hd : d.isRow = true) (hi : (P.info? ty).map (·.size) = some cells.size) (hdf : a.defers = []) (hR : R (.returned (.agg cells)) w) : bodyPost P fn R .ret a w := by
  refine bodyPost_ret (v := .agg cells) ?_ hdf hR
  have hl := run_loadRow (P := P) hg hu hd hi
  rw [Array.getD_eq_getD_getElem?] at hp
  simp [results, h, hp, asAddr, hl]
end
theorem setRow_keep (w : World) (g : Nat) (cs : Array Value) : ∀ k, k ≠ g → (w.setRow g cs).heap[k]? = w.heap[k]? := fun k hk => setRow_other w g k cs hk
end Go.Proofs.Ytdmfladjhjpafaa
