/-
  A block's cells all set at once, among other things; loads and stores of structs held as they stand till their run is known. No program in sight.
-/
import Derived.Test.YtgmdedkingampaaGreatLib5
import Derived.Deep.MidRow
import Derived.Test.YtgmdedkingampaaGreatClo
import Derived.Deep.AppendLies
import Derived.BigFrame
import Derived.Great.BuildSlice
set_option linter.unusedVariables false
set_option linter.unusedSimpArgs false
namespace Go.Proofs.YtgmdedkingampaaGreat
open Go.ChangeShapes Go.WideShapes Go.ChangeAt Go.RowKit Go.Maps

theorem setRow_alloc (w : World) (old cells : Array Value) (t : TypeId) : (w.alloc (.cells old t)).setRow w.heap.size cells = w.alloc (.cells cells t) := by
  unfold World.setRow World.alloc
  congr 1
  apply Array.ext_getElem?
  intro i
  simp only [Array.getElem?_modify, Array.getElem?_push]
  by_cases e : w.heap.size = i
  · subst e; simp
  · simp [e, Ne.symm e]
/-- Where a walk is to stop. -/
structure Stop (p : Prop) : Prop where
  out : p
section
variable {P : Program}
theorem stopLoad {ops : Array Oper} {rest : List Oper} {o : Oper} {a : Act} {w : World} {Q : Exit → Act → World → Prop} (t : TypeId) {x : Operand} (ho : o.op = .load t x) (h : Stop (wpList P ops Q (o :: rest) a w)) : wpList P ops Q (o :: rest) a w := h.out
theorem stopStore {ops : Array Oper} {rest : List Oper} {o : Oper} {a : Act} {w : World} {Q : Exit → Act → World → Prop} (t : TypeId) {x y : Operand} (ho : o.op = .store t x y) (h : Stop (wpList P ops Q (o :: rest) a w)) : wpList P ops Q (o :: rest) a w := h.out
theorem stopBuild {ops : Array Oper} {rest : List Oper} {o : Oper} {a : Act} {w : World} {Q : Exit → Act → World → Prop} (t : TypeId) {x : Array (Nat × Operand)} (ho : o.op = .build t x) (h : Stop (wpList P ops Q (o :: rest) a w)) : wpList P ops Q (o :: rest) a w := h.out
/-- A struct's value goes into the block that was made for it just now. -/
theorem wpList_fill {ops : Array Oper} {rest : List Oper} {o : Oper} {a : Act} {w : World} {Q : Exit → Act → World → Prop} (hgd : o.guard = none) (ty : TypeId) (x y : Operand) (ho : o.op = .store ty x y)
    (g : Nat) (hg : w.heap.size = g) (cells old : Array Value) (t : TypeId) (hx : a.eval x = .pointer (some ⟨g, 0, none⟩)) (hy : a.eval y = .agg cells)
    (hi : (P.info? ty).map (·.size) = some cells.size) (hold : old.size = cells.size) (h1 : cells.all (·.oneCell') = true)
    (h : wpList P ops Q rest (a.put o.dst undef) (w.alloc (.cells cells t))) : wpList P ops Q (o :: rest) a (w.alloc (.cells old t)) := by
  subst hg
  refine wpList_store_row hgd ty x y ho w.heap.size cells hx hy t old (heap_alloc_new w _) hi hold h1 ?_
  rw [setRow_alloc]
  exact h
/-- A struct is built: its cells written out. -/
theorem wpList_buildA {ops : Array Oper} {rest : List Oper} {o : Oper} {a : Act} {w : World} {Q : Exit → Act → World → Prop} (hg : o.guard = none) (t : TypeId) (parts : Array (Nat × Operand)) (ho : o.op = .build t parts)
    (cells : Array Value) (hf : P.built t (parts.map fun (i, x) => (i, a.eval x)).toList = some cells) (h : wpList P ops Q rest (a.put o.dst (.agg cells)) w) : wpList P ops Q (o :: rest) a w := by
  refine wpList_build hg t parts ho (by rw [hf]; rfl) ?_
  rw [hf]
  exact h
/-- A block that is known whole is read as a struct. -/
theorem wpList_loadRow {ops : Array Oper} {rest : List Oper} {o : Oper} {a : Act} {w : World} {Q : Exit → Act → World → Prop} (hgd : o.guard = none) (ty : TypeId) (x : Operand) (ho : o.op = .load ty x)
    (g : Nat) (cells : Array Value) (t : TypeId) (hg : w.heap[g]? = some (.cells cells t (0, 0))) (hx : a.eval x = .pointer (some ⟨g, 0, none⟩)) (d : TypeDesc)
    (hu : P.underlying ty = some d) (hd : d.isRow = true) (hi : (P.info? ty).map (·.size) = some cells.size)
    (h : wpList P ops Q rest (a.put o.dst (.agg cells)) w) : wpList P ops Q (o :: rest) a w := by
  refine wpList_load_mid hgd ty x ho g 0 hx cells.toList d (fun j v hv => ?_) hu hd (by simpa using hi) (by simpa using h)
  rw [Nat.zero_add]
  have h := World.news_of_block hg j v hv
  rwa [Addr.add_mid, Nat.zero_add] at h
/-- A block that is known whole, read. -/
theorem run_loadRow {w : World} {ty : TypeId} {g : Nat} {cells : Array Value} {t : TypeId} (hg : w.heap[g]? = some (.cells cells t (0, 0))) {d : TypeDesc} (hu : P.underlying ty = some d) (hd : d.isRow = true) (hi : (P.info? ty).map (·.size) = some cells.size) :
    (loadVar ty ⟨g, 0, none⟩).run P w = .ok (.agg cells) w := by
  have := run_loadVar_mid (P := P) w g 0 ty cells.toList d (fun j v hv => by
    rw [Nat.zero_add]
    have h := World.news_of_block hg j v hv
    rwa [Addr.add_mid, Nat.zero_add] at h) hu hd (by simpa using hi)
  simpa using this
/-- The end of a function whose one result is a struct in a cell. -/
theorem bodyPost_cell {fn : Func} {R : Ending → World → Prop} {a : Act} {w : World} {q : Tmp} {ty : TypeId} (h : fn.results = #[.cell q ty]) (g : Nat) {cells : Array Value} {t : TypeId} (hp : a.tmps.getD q undef = .pointer (some ⟨g, 0, none⟩)) (hg : w.heap[g]? = some (.cells cells t (0, 0)))
    {d : TypeDesc} (hu : P.underlying ty = some d) (hd : d.isRow = true) (hi : (P.info? ty).map (·.size) = some cells.size) (hdf : a.defers = []) (hR : R (.returned (.agg cells)) w) : bodyPost P fn R .ret a w := by
  refine bodyPost_ret (v := .agg cells) ?_ hdf hR
  have hl := run_loadRow (P := P) hg hu hd hi
  rw [Array.getD_eq_getD_getElem?] at hp
  simp [results, h, hp, asAddr, hl]
end
theorem setRow_keep (w : World) (g : Nat) (cs : Array Value) : ∀ k, k ≠ g → (w.setRow g cs).heap[k]? = w.heap[k]? := fun k hk => setRow_other w g k cs hk
end Go.Proofs.YtgmdedkingampaaGreat

namespace Go.Proofs.YtgmdedkingampaaGreat
open Go.ChangeShapes Go.WideShapes Go.ChangeAt Go.RowKit Go.Maps

/-- 'append(out, u)': one element of many cells, laid in a new block. -/
theorem wpList_appL {P : Program} {w : World} {ops : Array Oper} {rest : List Oper} {o : Oper} {a : Act} {Q : Exit → Act → World → Prop} (hgd : o.guard = none) (s x : Operand) (t : TypeId)
    (ho : o.op = .call { callee := .builtin .append, args := #[s, x], argTypes := #[t, t] })
    (base : Nat) (e : TypeId) (i : TypeInfo) (z : Value) (size bytes : Nat) (ht : P.underlying t = some (.slice e)) (hi : P.info? e = some i) (hz : i.zero = some z)
    (hsize : i.size = size) (hby : i.bytes = bytes) (hzs : z.cells.size = size) (hsz : 0 < size) (hb64 : bytes ≤ 1024)
    {v : Value} {n : Nat} {xs : List Value} {us : Array Value} {c B : Nat} {e' : TypeId} {fr : Nat × Nat} (hs : a.eval s = v) (hx : a.eval x = .slice (some ⟨B, 0, none⟩) 1 c) (hB : w.heap.size = B) (hm : us.toList.length = size) (hown : w.ownsRow base e size v n xs) (hu : ∀ u ∈ us.toList, u.oneCell' = true)
    (hlen : n ≤ 1000000000) (hbase : base ≤ w.heap.size)
    (h : ∀ g cap w', w'.ownsRow base e size (.slice (some ⟨g, 0, none⟩) (n + 1) cap) (n + 1) (xs ++ us.toList) → (w.alloc (.cells us e' fr)).grownBy w' v.ownBlock → (v.ownBlock = some g ∨ g = w.heap.size + 1) →
      wpList P ops Q rest (a.put o.dst (.slice (some ⟨g, 0, none⟩) (n + 1) cap)) w') : wpList P ops Q (o :: rest) a (w.alloc (.cells us e' fr)) := by
  subst hB
  refine wpList_append_lies _ hgd s x t ho base e i z size bytes ht hi hz hsize hby hzs hsz v n xs hs (hown.alloc _) ⟨w.heap.size, 0, none⟩ 1 c us.toList hx (by omega) (World.news_of_block (heap_alloc_new w _)) hu (by decide) (by unfold maxLen; omega)
    (by have := Nat.mul_le_mul_left (n + 1) hb64; omega) (by simp; omega) _ rfl ?_
  intro g cap w' h1 h2 h3 _
  exact h g cap w' h1 h2 (by simpa using h3)
theorem Sep.keepD {B : Nat} {S : Nat → Prop} {w w' : World} {os : List Ob} (h : Sep B w os) (hk : Keep S w w') (ho : ∀ k, S k → k < B) : Sep B w' os :=
  ⟨h.good, fun o hm => (h.good o hm).keep (h.inv o hm) hk (fun k hs hf => by have := ho k hs; have := h.base o hm k hf; omega), h.base, h.apart, Nat.le_trans h.size hk.size⟩
end Go.Proofs.YtgmdedkingampaaGreat

namespace Go.Proofs.YtgmdedkingampaaGreat
open Go.ChangeShapes Go.WideShapes Go.ChangeAt Go.RowKit Go.Maps
section
variable {P : Program}
/-- A block that is known whole is read as a struct, behind a guard that says yes, too. -/
theorem wpList_loadRowW {ops : Array Oper} {rest : List Oper} {o : Oper} {a : Act} {w : World} {Q : Exit → Act → World → Prop} (hw : Region.wanted o (yielded ops a.tmps) = true) (ty : TypeId) (x : Operand) (ho : o.op = .load ty x)
    (g : Nat) (cells : Array Value) (t : TypeId) (hg : w.heap[g]? = some (.cells cells t (0, 0))) (hx : a.eval x = .pointer (some ⟨g, 0, none⟩)) (d : TypeDesc)
    (hu : P.underlying ty = some d) (hd : d.isRow = true) (hi : (P.info? ty).map (·.size) = some cells.size)
    (h : wpList P ops Q rest (a.put o.dst (.agg cells)) w) : wpList P ops Q (o :: rest) a w := by
  refine BigFrame.wpList_want hw fun K hK => ?_
  refine wp_load_mid ty x ho g 0 hx cells.toList d (fun j v hv => ?_) hu hd (by simpa using hi) (hK _ _ (by simpa using h))
  rw [Nat.zero_add]
  have h := World.news_of_block hg j v hv
  rwa [Addr.add_mid, Nat.zero_add] at h
/-- The end of a function with two results, the first of which is a struct in a cell. -/
theorem bodyPost_cell2 {fn : Func} {R : Ending → World → Prop} {a : Act} {w : World} {q r : Tmp} {ty : TypeId} (h : fn.results = #[.cell q ty, .tmp r]) (g : Nat) {cells : Array Value} {t : TypeId} (hp : a.tmps.getD q undef = .pointer (some ⟨g, 0, none⟩)) (v : Value) (hr : a.tmps.getD r undef = v) (hg : w.heap[g]? = some (.cells cells t (0, 0)))
    {d : TypeDesc} (hu : P.underlying ty = some d) (hd : d.isRow = true) (hi : (P.info? ty).map (·.size) = some cells.size) (hdf : a.defers = []) (hR : R (.returned (.tuple #[.agg cells, v])) w) : bodyPost P fn R .ret a w := by
  refine bodyPost_ret (v := .tuple #[.agg cells, v]) ?_ hdf hR
  have hl := run_loadRow (P := P) hg hu hd hi
  rw [Array.getD_eq_getD_getElem?] at hp hr
  simp [results, h, hp, hr, asAddr, hl]
end
end Go.Proofs.YtgmdedkingampaaGreat

namespace Go.Proofs.YtgmdedkingampaaGreat
open Go.ChangeShapes Go.WideShapes Go.ChangeAt Go.RowKit Go.Maps

theorem keep_setRowB (w : World) (g : Nat) (cs : Array Value) : Keep (fun k => k = g) w (w.setRow g cs) :=
  ⟨rfl, rfl, rfl, by simp [World.setRow], fun k _ hk => by simp [World.setRow, Array.getElem?_modify, Ne.symm hk]⟩
theorem SepW.rowBlk {W w : World} {os : List Ob} (h : SepW W w os) (i : Nat) {b : Nat} {old : Array Value} (cs : Array Value) {t : TypeId} (hi : os[i]? = some (obBlk b (.cells old t))) : SepW W (w.setRow b cs) (os.set i (obBlk b (.cells cs t))) := by
  have hb : w.heap[b]? = some (.cells old t (0, 0)) := h.get i hi
  exact h.set i hi (keep_setRowB w b cs) (obBlk_good ..) (show (w.setRow b cs).heap[b]? = some (.cells cs t (0, 0)) by simp [World.setRow, Array.getElem?_modify, hb]) (fun k hk => Or.inl hk)
/-- Loads and stores of values of this type are held as they stand. -/
structure RowMark (t : TypeId) : Prop where
  out : True
def rowStore (t : TypeId) (p v : Value) : Sem Unit := Instr.storeAt t p v
def rowLoad (t : TypeId) (p : Value) : Sem Value := Instr.loadAt t p
theorem ex_rowLoad {P : Program} {ρ : Operand → Value} {w : World} {dst : Option Tmp} {t : TypeId} {x : Operand} {ty : TypeId} {pos : String} {aft : Array _} {gd : Option _} (h : RowMark t) :
    Sem.run P (execOp ρ { dst := dst, op := .load t x, type := ty, pos := pos, after := aft, guard := gd }) w = ((rowLoad t (ρ x)).run P w).andThen fun v w' => .ok (.value v) w' := by
  unfold execOp rowLoad
  simp [Sem.run_bind, Sem.run_pure]
theorem ex_rowStore {P : Program} {ρ : Operand → Value} {w : World} {dst : Option Tmp} {t : TypeId} {x y : Operand} {ty : TypeId} {pos : String} {aft : Array _} {gd : Option _} (h : RowMark t) :
    Sem.run P (execOp ρ { dst := dst, op := .store t x y, type := ty, pos := pos, after := aft, guard := gd }) w = ((rowStore t (ρ x) (ρ y)).run P w).andThen fun _ w' => .ok .skip w' := by
  unfold execOp rowStore
  simp [Sem.run_bind, Sem.run_pure]
structure BuildMark (t : TypeId) : Prop where
  out : True
def rowBuild (t : TypeId) (v : Value) : Sem Value := Instr.buildSlice t 1 #[(0, v)]
theorem ex_rowBuild {P : Program} {ρ : Operand → Value} {w : World} {dst : Option Tmp} {t : TypeId} {x : Operand} {ty : TypeId} {pos : String} {aft : Array _} {gd : Option _} (h : BuildMark t) :
    Sem.run P (execOp ρ { dst := dst, op := .buildSlice t 1 #[(0, x)], type := ty, pos := pos, after := aft, guard := gd }) w = ((rowBuild t (ρ x)).run P w).andThen fun v w' => .ok (.value v) w' := by
  unfold execOp rowBuild
  simp [Sem.run_bind, Sem.run_pure]
theorem run_rowBuild {P : Program} (t e : TypeId) (cells : Array Value) (size bytes : Nat) (z : Value)
    (hu : P.underlying t = some (.slice e)) (hie : (P.info? e).map (fun i => (i.zero, i.size, i.bytes)) = some (some z, size, bytes)) (hs : ¬ size > 2 ^ 24) (hpos : 0 < size) (hc : cells.size = size) (w : World) :
    (rowBuild t (.agg cells)).run P w = .ok (.slice (some ⟨w.heap.size, 0, none⟩) 1 1) (w.alloc (.cells cells e)) := by
  obtain ⟨ie, hi, hz⟩ := Option.map_eq_some_iff.1 hie
  simp only [Prod.mk.injEq] at hz
  obtain ⟨hz0, hz1, hz2⟩ := hz
  unfold rowBuild
  refine run_buildSlice w t e 1 _ cells ie z hu hi hz0 (by rw [hz1]; omega) (by rw [hz1]; omega) ?_
  have := Go.Great.fill_whole (s := size) hpos [.agg cells] ((Array.range (1 * size)).map (z.cells[· % z.cells.size]!)) (by simp [Value.cells, hc]) (by simp)
  rw [hz1]
  simpa [Value.cells] using this
theorem run_rowLoad {P : Program} {w : World} (ty : TypeId) (b o : Nat) (cs : List Value) (d : TypeDesc) (hc : w.rangeAt b o cs) (hu : P.underlying ty = some d) (hd : d.isRow = true) (hi : (P.info? ty).map (·.size) = some cs.length) : (rowLoad ty (.pointer (some ⟨b, o, none⟩))).run P w = .ok (.agg cs.toArray) w := run_loadAt_mid w b o ty cs d hc hu hd hi
theorem run_rowStore {P : Program} {w : World} (ty : TypeId) (b o : Nat) (cells : Array Value) (ht : w.there b o cells.size) (hi : (P.info? ty).map (·.size) = some cells.size) (h1 : cells.all (·.oneCell') = true) : (rowStore ty (.pointer (some ⟨b, o, none⟩)) (.agg cells)).run P w = .ok () (w.setCells b o cells.toList) := run_storeAt_mid w b o ty cells ht hi h1
theorem run_rowStoreB {P : Program} {w : World} (ty : TypeId) (g : Nat) (cells : Array Value) (t : TypeId) (old : Array Value) (hg : w.heap[g]? = some (.cells old t (0, 0))) (hi : (P.info? ty).map (·.size) = some cells.size)
    (hold : old.size = cells.size) (h1 : cells.all (·.oneCell') = true) : (rowStore ty (.pointer (some ⟨g, 0, none⟩)) (.agg cells)).run P w = .ok () (w.setRow g cells) := by
  unfold rowStore
  simp only [Instr.storeAt, Instr.sureAddr, Sem.run_bind, Sem.run_pure, Result.andThen_ok, run_storeVar_row w g t ty old cells hg hi hold h1]
end Go.Proofs.YtgmdedkingampaaGreat
