/-
  Package disk: Sync.
-/
import Derived.Test.YtgmdedkingampaaGreatBlr
import Derived.Test.YtgmdedkingampaaGreatBal
import Derived.Deep.OwnRows
import Derived.Deep.MidRow
import Derived.Test.YtgmdedkingampaaGreatProg
import Derived.Test.YtgmdedkingampaaGreatLibT
import Derived.Test.YtgmdedkingampaaGreatSum
import Derived.Lib.SlBuf
import Derived.Laws.CopyRow
import Derived.StillTail
import Derived.StillTailTactics
set_option linter.unusedVariables false
set_option linter.unusedSimpArgs false
namespace Go.Proofs.YtgmdedkingampaaGreat
open Go.ChangeShapes Go.WideShapes Go.ChangeAt Go.RowKit Go.Maps
set_option maxRecDepth 100000
set_option linter.unusedVariables false
set_option linter.unusedSimpArgs false

/-- A disk: its blocks, the writes that wait, how many calls are left, whether it stopped. -/
structure Dk where
  l : List (List Int)
  waits : List (Nat × List Int)
  left : Int
  down : Bool
def waitC (ws : List (Nat × List Int)) : List Value := ws.flatMap fun x => Value.int .i64 x.1 :: u8s x.2
def BlkOk (b : List Int) : Prop := b.length = 64 ∧ U8 b
structure DkOk (d : Dk) : Prop where
  some : 1 ≤ d.l.length ∧ d.l.length ≤ 65536
  blk : ∀ b ∈ d.l, BlkOk b
  wait : ∀ x ∈ d.waits, x.1 < d.l.length ∧ BlkOk x.2
  few : d.waits.length ≤ 1000000
  left : -1 ≤ d.left ∧ d.left ≤ 1000000000
structure DkR (w : World) (D : Nat → Prop) (b0 bl : Nat) (wv : Value) (d : Dk) : Prop where
  cells : w.heap[b0]? = some (.cells #[.slice (some ⟨bl, 0, none⟩) d.l.length d.l.length, wv, .int .i64 d.left, .bool d.down] 102 (0, 0))
  rows : ∀ i b, d.l[i]? = some b → w.rangeAt bl (i * 64) (u8s b)
  there : ∀ i, i < d.l.length → w.there bl (i * 64) 64
  waits : w.ownsRow 0 187 65 wv d.waits.length (waitC d.waits)
  lt : ∀ k, D k → k < w.heap.size
  d0 : D b0
  dl : D bl
  dw : ∀ k, wv.ownBlock = some k → D k ∧ k ≠ b0 ∧ k ≠ bl
  ne : bl ≠ b0
  ok : DkOk d
theorem range_same {w w' : World} {b o : Nat} {cs : List Value} (hb : w'.heap[b]? = w.heap[b]?) (h : w.rangeAt b o cs) : w'.rangeAt b o cs := fun j v hv => (World.cell?_of_block (a := ⟨b, o + j, none⟩) hb).trans (h j v hv)
theorem there_same {w w' : World} {b o n : Nat} (hb : w'.heap[b]? = w.heap[b]?) (h : w.there b o n) : w'.there b o n := fun j hj => by
  have := h j hj
  simp only [World.cell?, World.frozen?, hb] at this ⊢
  exact this
theorem DkR.keep {S D : Nat → Prop} {w w' : World} {b0 bl : Nat} {wv : Value} {d : Dk} (h : DkR w D b0 bl wv d) (hk : Keep S w w') (hS : ∀ k, S k → ¬ D k) : DkR w' D b0 bl wv d := by
  have hb : ∀ k, D k → w'.heap[k]? = w.heap[k]? := fun k hd => hk.block k (h.lt k hd) (fun hs => hS k hs hd)
  exact ⟨(hb _ h.d0).trans h.cells, fun i b hi => range_same (hb _ h.dl) (h.rows i b hi), fun i hi => there_same (hb _ h.dl) (h.there i hi), own_keep h.waits (fun k hv => hb k (h.dw k hv).1), fun k hd => Nat.lt_of_lt_of_le (h.lt k hd) hk.size, h.d0, h.dl, h.dw, h.ne, h.ok⟩
def DkO (b0 : Nat) (D : Nat → Prop) (w : World) (d : Dk) : Prop := ∃ bl wv, DkR w D b0 bl wv d
def obDk (b0 : Nat) (D : Nat → Prop) (d : Dk) : Ob := ⟨D, fun w => DkO b0 D w d⟩
theorem obDk_good (b0 : Nat) (D : Nat → Prop) (d : Dk) : (obDk b0 D d).Good :=
  ⟨fun {S w w'} h hk hs => by obtain ⟨bl, wv, h⟩ := (h : DkO b0 D w d); exact ⟨bl, wv, h.keep hk hs⟩, fun {w} h k hk => by obtain ⟨bl, wv, h⟩ := (h : DkO b0 D w d); exact h.lt k hk⟩
theorem DkR.cell {D : Nat → Prop} {w : World} {b0 bl : Nat} {wv : Value} {d : Dk} (h : DkR w D b0 bl wv d) : w.cell? ⟨b0, 0, none⟩ = some (.slice (some ⟨bl, 0, none⟩) d.l.length d.l.length) ∧ w.cell? ⟨b0, 1, none⟩ = some wv ∧ w.cell? ⟨b0, 2, none⟩ = some (.int .i64 d.left) ∧ w.cell? ⟨b0, 3, none⟩ = some (.bool d.down) ∧
    w.frozen? ⟨b0, 0, none⟩ = false ∧ w.frozen? ⟨b0, 1, none⟩ = false ∧ w.frozen? ⟨b0, 2, none⟩ = false ∧ w.frozen? ⟨b0, 3, none⟩ = false := by
  have := h.cells
  simp [World.cell?, World.frozen?, this]
theorem dk_up {D : Nat → Prop} {w : World} {b0 bl : Nat} {wv : Value} {d : Dk} (h : DkR w D b0 bl wv d) : Calls Tryz.prog 139 #[.pointer (some ⟨b0, 0, none⟩)] w fun e w' => e = .returned (.int .i64 (if d.down then 20 else 0)) ∧ w = w' := by
  obtain ⟨c0, c1, c2, c3, _⟩ := h.cell
  clear h
  cases hd : d.down with
  | true =>
    rw [hd] at c3
    go_enter Tryz.func139, Tryz.ntmps139
    go_wp2_with fail
    go_ret
    exact ⟨rfl, rfl⟩
  | false =>
    rw [hd] at c3
    go_enter Tryz.func139, Tryz.ntmps139
    go_wp2_with fail
    go_ret
    exact ⟨rfl, rfl⟩
theorem dk_at {D : Nat → Prop} {w : World} {b0 bl : Nat} {wv : Value} {d : Dk} (h : DkR w D b0 bl wv d) {i : Nat} (hi : i < d.l.length) : Calls Tryz.prog 136 #[.pointer (some ⟨b0, 0, none⟩), .int .i64 i] w fun e w' => e = .returned (.int .i64 (if d.down then 20 else 0)) ∧ w = w' := by
  obtain ⟨c0, c1, c2, c3, _⟩ := h.cell
  have HU := Lib.hid (dk_up h)
  have g0 : decide ((i : Int) < 0) = false := decide_eq_false (by omega)
  have g1 : decide ((d.l.length : Int) ≤ (i : Int)) = false := decide_eq_false (by omega)
  have g2 : decide (d.l.length ≤ i) = false := decide_eq_false (by omega)
  clear h
  go_enter Tryz.func136, Tryz.ntmps136
  go_wp2_with fail
  refine HU.out.mono ?_
  rintro e w2 ⟨rfl, rfl⟩
  cases hd : d.down with
  | true =>
    go_wp2_with fail
    go_ret
    exact ⟨rfl, rfl⟩
  | false =>
    go_wp2_with fail
    all_goals
      go_ret
      exact ⟨rfl, rfl⟩
section
variable {W w w' : World} {os : List Ob}
theorem SepW.dkLen (h : SepW W w os) (i : Nat) {b0 : Nat} {D : Nat → Prop} {d : Dk} (hi : os[i]? = some (obDk b0 D d)) : Calls Tryz.prog 99 #[.pointer (some ⟨b0, 0, none⟩)] w fun e w' => e = .returned (.int .i64 d.l.length) ∧ w = w' := by
  obtain ⟨bl, wv, hd⟩ := (h.get i hi : DkO b0 D w d)
  obtain ⟨c0, c1, c2, c3, _⟩ := hd.cell
  clear h hi hd
  go_enter Tryz.func99, Tryz.ntmps99
  go_wp2_with fail
  go_ret
  exact ⟨rfl, rfl⟩
theorem SepW.dkWaits (h : SepW W w os) (i : Nat) {b0 : Nat} {D : Nat → Prop} {d : Dk} (hi : os[i]? = some (obDk b0 D d)) : Calls Tryz.prog 18 #[.pointer (some ⟨b0, 0, none⟩)] w fun e w' => e = .returned (.int .i64 d.waits.length) ∧ w = w' := by
  obtain ⟨bl, wv, hd⟩ := (h.get i hi : DkO b0 D w d)
  obtain ⟨c0, c1, c2, c3, _⟩ := hd.cell
  obtain ⟨ao, ac, rfl, _, _⟩ := own_form hd.waits
  clear h hi hd
  go_enter Tryz.func18, Tryz.ntmps18
  go_wp2_with fail
  go_ret
  exact ⟨rfl, rfl⟩
theorem Tryz.blockInfo : (Tryz.prog.info? 185).map (fun i => (i.zero, i.size, i.bytes)) = some (some (.agg (Array.replicate 64 (.int .u8 0))), 64, 64) := by kernel_rfl
theorem Tryz.writeInfo : (Tryz.prog.info? 187).map (fun i => (i.zero, i.size, i.bytes)) = some (some (.agg (#[.int .i64 0] ++ Array.replicate 64 (.int .u8 0))), 65, 72) := by kernel_rfl
def zeroB : List Int := List.replicate 64 0
theorem zeroB_ok : BlkOk zeroB := ⟨by simp [zeroB], fun x hx => by have := List.eq_of_mem_replicate hx; omega⟩
def newDk (n : Nat) : Dk := ⟨List.replicate n zeroB, [], -1, false⟩
theorem newDk_ok {n : Nat} (h : 1 ≤ n ∧ n ≤ 65536) : DkOk (newDk n) :=
  ⟨by simpa [newDk] using h, fun b hb => by rw [List.eq_of_mem_replicate hb]; exact zeroB_ok, by simp [newDk], by simp [newDk], by simp [newDk]⟩
theorem made_at (n i : Nat) (hi : i < n) : (madeCells (Array.replicate 64 (.int .u8 0)) n)[i]? = some (.int .u8 0) := by
  unfold madeCells
  rw [Array.getElem?_map, Array.getElem?_range]
  rw [if_pos hi]
  simp only [Option.map_some, Array.size_replicate]
  rw [getElem!_pos _ _ (by simp; omega)]
  simp
theorem SepW.dkNew (h : SepW W w os) {n : Nat} (hn : 1 ≤ n ∧ n ≤ 65536) : Calls Tryz.prog 20 #[.int .i64 n] w fun e w' => ∃ b0 D, e = .returned (.tuple #[.pointer (some ⟨b0, 0, none⟩), .int .i64 0]) ∧ SepW W w' (obDk b0 D (newDk n) :: os) := by
  obtain ⟨i0, hi, hz0, hz1, hz2⟩ := info_parts Tryz.blockInfo
  have hmk : ∀ w : World, (Instr.makeSlice 99 (.int .i64 n) (.int .i64 n)).run Tryz.prog w = .ok (.slice (some ⟨w.heap.size, 0, none⟩) n n) (w.alloc (.cells (madeCells (Array.replicate 64 (.int .u8 0)) (n * 64)) 185)) := fun w => by
    have := run_make (P := Tryz.prog) w 99 185 i0 _ Tryz.underlying99 hi hz0 .i64 .i64 n n (by omega) (by omega) (by rw [hz2]; omega) (by omega)
    rw [hz1] at this
    simpa [Value.cells] using this
  have d1 : decide ((n : Int) < 1) = false := decide_eq_false (by omega)
  have d2 : decide ((65536 : Int) < (n : Int)) = false := decide_eq_false (by omega)
  have H := Lib.hid h
  clear h hi hz0 hz1 hz2
  go_enter Tryz.func20, Tryz.ntmps20
  go_wp2_with fail
  go_returns
  have hok := newDk_ok hn
  refine ⟨w.heap.size + 1, fun k => k = w.heap.size ∨ k = w.heap.size + 1, by simp, H.out.new (((Below.refl _ _).alloc (Nat.le_refl _) _).alloc (by simp) _) (obDk_good ..) ?_ (fun k hk => by rcases hk with rfl | rfl <;> omega)⟩
  generalize hA : (Obj.cells (madeCells (Array.replicate 64 (Value.int IntKind.u8 0)) (n * 64)) 185) = A
  have e1 : (w.alloc A).heap.size = w.heap.size + 1 := by simp
  have k1 : ((w.alloc A).alloc (.cells #[.slice (some ⟨w.heap.size, 0, none⟩) n n, .slice none 0 0, .int .i64 (-1), .bool false] 102)).heap[w.heap.size]? = some A := (Below.heap_alloc _ _ _ (by simp)).trans (heap_alloc_new w _)
  have k2 := heap_alloc_new (w.alloc A) (.cells #[.slice (some ⟨w.heap.size, 0, none⟩) n n, .slice none 0 0, .int .i64 (-1), .bool false] 102 (0, 0))
  rw [e1] at k2
  have hcell : ∀ i, i < n * 64 → ((w.alloc A).alloc (.cells #[.slice (some ⟨w.heap.size, 0, none⟩) n n, .slice none 0 0, .int .i64 (-1), .bool false] 102)).cell? ⟨w.heap.size, i, none⟩ = some (.int .u8 0) := fun i hi => by
    subst hA
    simp only [World.cell?, k1]
    exact made_at _ _ hi
  have hlen : (newDk n).l.length = n := by simp [newDk]
  refine ⟨w.heap.size, .slice none 0 0, ⟨by rw [hlen]; exact k2, fun i b hb => ?_, fun i hi j hj => ?_, World.ownsRow_nil _ _ _ _, fun k hk => (by simp; omega), Or.inr rfl, Or.inl rfl, fun k hk => (by cases hk), by omega, hok⟩⟩
  · have hin : i < n := by have := (List.getElem?_eq_some_iff.1 hb).1; omega
    have hb0 : b = zeroB := List.eq_of_mem_replicate (List.mem_of_getElem? hb)
    subst hb0
    intro j v hv
    have hj : j < 64 := by have := (List.getElem?_eq_some_iff.1 hv).1; simpa [zeroB] using this
    have hv0 : v = .int .u8 0 := by
      rw [List.getElem?_map, zeroB, List.getElem?_replicate, if_pos hj] at hv
      simpa using hv.symm
    rw [hv0]
    exact hcell _ (by omega)
  · rw [hlen] at hi
    have := hcell (i * 64 + j) (by omega)
    refine ⟨by rw [this]; rfl, ?_⟩
    subst hA
    simp [World.frozen?, k1]
end
end Go.Proofs.YtgmdedkingampaaGreat

namespace Go.Proofs.YtgmdedkingampaaGreat
open Go.ChangeShapes Go.WideShapes Go.ChangeAt Go.RowKit Go.Maps
set_option maxRecDepth 100000
set_option linter.unusedVariables false
set_option linter.unusedSimpArgs false

theorem cells_keep (w : World) (b j : Nat) (v : Value) : Keep (fun k => k = b) w (w.setCell ⟨b, j, none⟩ v) := (Keep.refl (fun q => q = b) w).setCell (p := ⟨b, j, none⟩) (Or.inl rfl) v
theorem DkR.turn {D : Nat → Prop} {w w' : World} {b0 bl : Nat} {wv : Value} {d d' : Dk} (h : DkR w D b0 bl wv d) (hk : Keep (fun k => k = b0) w w') (hc : w'.heap[b0]? = some (.cells #[.slice (some ⟨bl, 0, none⟩) d'.l.length d'.l.length, wv, .int .i64 d'.left, .bool d'.down] 102 (0, 0)))
    (hl : d'.l = d.l) (hw : d'.waits = d.waits) (hL : -1 ≤ d'.left ∧ d'.left ≤ 1000000000) : DkR w' D b0 bl wv d' := by
  have hb : ∀ k, D k → k ≠ b0 → w'.heap[k]? = w.heap[k]? := fun k hd hn => hk.block k (h.lt k hd) hn
  refine ⟨hc, fun i b hi => ?_, fun i hi => ?_, ?_, fun k hd => Nat.lt_of_lt_of_le (h.lt k hd) hk.size, h.d0, h.dl, h.dw, h.ne, ?_⟩
  · rw [hl] at hi; exact range_same (hb _ h.dl h.ne) (h.rows i b hi)
  · rw [hl] at hi; exact there_same (hb _ h.dl h.ne) (h.there i hi)
  · rw [hw]; exact own_keep h.waits (fun k hv => hb k (h.dw k hv).1 (h.dw k hv).2.1)
  · have := h.ok
    exact ⟨by rw [hl]; exact this.some, by rw [hl]; exact this.blk, by rw [hl, hw]; exact this.wait, by rw [hw]; exact this.few, hL⟩
theorem dk_counts0 {D : Nat → Prop} {w : World} {b0 bl : Nat} {wv : Value} {d : Dk} (h : DkR w D b0 bl wv d) (h0 : d.left = 0) : Calls Tryz.prog 137 #[.pointer (some ⟨b0, 0, none⟩)] w fun e w' => e = .returned (.int .i64 20) ∧ DkR w' D b0 bl wv { d with down := true } ∧ Keep (fun k => k = b0) w w' := by
  obtain ⟨c0, c1, c2, c3, f0, f1, f2, f3⟩ := h.cell
  have h1 : DkR (w.setCell ⟨b0, 3, none⟩ (.bool true)) D b0 bl wv { d with down := true } := h.turn (cells_keep w b0 3 _) (by simpa using heap_setCell_same w b0 3 _ _ (.bool true) h.cells) rfl rfl h.ok.left
  have H1 := Lib.hid h1
  rw [h0] at c2
  clear h h1 h0
  go_enter Tryz.func137, Tryz.ntmps137
  go_wp2_with fail
  go_ret
  exact ⟨rfl, H1.out, cells_keep w b0 3 _⟩
def cnt1 (x : Int) : Int := if x - 1 < -1 then -1 else x - 1
theorem dk_counts1 {D : Nat → Prop} {w : World} {b0 bl : Nat} {wv : Value} {d : Dk} (h : DkR w D b0 bl wv d) (h0 : d.left ≠ 0) : Calls Tryz.prog 137 #[.pointer (some ⟨b0, 0, none⟩)] w fun e w' => e = .returned (.int .i64 0) ∧ DkR w' D b0 bl wv { d with left := max (d.left - 1) (-1) } ∧ Keep (fun k => k = b0) w w' := by
  obtain ⟨c0, c1, c2, c3, f0, f1, f2, f3⟩ := h.cell
  have hL := h.ok.left
  have h1 : DkR (w.setCell ⟨b0, 2, none⟩ (.int .i64 (max (d.left - 1) (-1)))) D b0 bl wv { d with left := max (d.left - 1) (-1) } := h.turn (cells_keep w b0 2 _) (by simpa using heap_setCell_same w b0 2 _ _ (.int .i64 (max (d.left - 1) (-1))) h.cells) rfl rfl (by show -1 ≤ max (d.left - 1) (-1) ∧ max (d.left - 1) (-1) ≤ 1000000000; omega)
  have H1 := Lib.hid h1
  have hq : (d.left == 0) = false := beq_eq_false_iff_ne.2 h0
  have hw : IntKind.i64.wrap (d.left - 1) = d.left - 1 := IntWalk.i64_in _ (by constructor <;> omega)
  clear h h1 h0
  go_enter Tryz.func137, Tryz.ntmps137
  go_wp2_with fail
  go_ret
  exact ⟨rfl, H1.out, cells_keep w b0 2 _⟩
/-- A slice of one struct typed out, at a step of a region that draws. -/
theorem step_buildOne {P : Program} {w : World} {ops : Array Oper} {o : Oper} {a : Act} {K : Act → World → Prop} {Q : Exit → Act → World → Prop} {E : Prop} (hgd : o.guard = none) (t e : TypeId) (x : Operand) (ho : o.op = .buildSlice t 1 #[(0, x)]) (cells : Array Value) (size bytes : Nat) (z : Value)
    (hu : P.underlying t = some (.slice e)) (hie : (P.info? e).map (fun i => (i.zero, i.size, i.bytes)) = some (some z, size, bytes)) (hs : ¬ size > 2 ^ 24) (hpos : 0 < size) (hx : a.eval x = .agg cells) (hc : cells.size = size)
    (h : K (a.put o.dst (.slice (some ⟨w.heap.size, 0, none⟩) 1 1)) (w.alloc (.cells cells e))) : if Region.wanted o (yielded ops a.tmps) = true then Oper.wp P o a w K Q else E := by
  have hw : Region.wanted o (yielded ops a.tmps) = true := by simp [Region.wanted, hgd]
  rw [if_pos hw]
  obtain ⟨ie, hi, hz⟩ := Option.map_eq_some_iff.1 hie
  simp only [Prod.mk.injEq] at hz
  obtain ⟨hz0, hz1, hz2⟩ := hz
  refine wp_buildSlice t e 1 _ ho cells ie z hu hi hz0 (by rw [hz1]; omega) (by rw [hz1]; omega) ?_ h
  have := Go.Great.fill_whole (s := size) hpos [.agg cells] ((Array.range (1 * size)).map (z.cells[· % z.cells.size]!)) (by simp [Value.cells, hc]) (by simp)
  rw [hz1]
  simpa [hx, Value.cells] using this
theorem step_appW {P : Program} {w : World} {ops : Array Oper} {o : Oper} {a : Act} {K : Act → World → Prop} {Q : Exit → Act → World → Prop} {E : Prop} (hgd : o.guard = none) (s x : Operand) (t : TypeId)
    (ho : o.op = .call { callee := .builtin .append, args := #[s, x], argTypes := #[t, t] })
    (base : Nat) (e : TypeId) (z : Value) (size bytes : Nat) (ht : P.underlying t = some (.slice e)) (hie : (P.info? e).map (fun i => (i.zero, i.size, i.bytes)) = some (some z, size, bytes))
    (hzs : z.cells.size = size) (hsz : 0 < size) (hb64 : bytes ≤ 1024)
    {v : Value} {n : Nat} {xs : List Value} {us : Array Value} {c B : Nat} {e' : TypeId} {fr : Nat × Nat} (hs : a.eval s = v) (hx : a.eval x = .slice (some ⟨B, 0, none⟩) 1 c) (hB : w.heap[B]? = some (.cells us e' fr)) (hm : us.toList.length = size) (hown : w.ownsRow base e size v n xs) (hu : ∀ u ∈ us.toList, u.oneCell' = true)
    (hlen : n ≤ 1000000000) (hbase : base ≤ w.heap.size)
    (h : ∀ g cap w', w'.ownsRow base e size (.slice (some ⟨g, 0, none⟩) (n + 1) cap) (n + 1) (xs ++ us.toList) → Below base w w' → (v.ownBlock = some g ∨ w.heap.size ≤ g) → (∀ k, k < w.heap.size → some k ≠ v.ownBlock → w'.heap[k]? = w.heap[k]?) →
      K (a.put o.dst (.slice (some ⟨g, 0, none⟩) (n + 1) cap)) w') : if Region.wanted o (yielded ops a.tmps) = true then Oper.wp P o a w K Q else E := by
  have hw : Region.wanted o (yielded ops a.tmps) = true := by simp [Region.wanted, hgd]
  rw [if_pos hw]
  obtain ⟨i, hi, hz⟩ := Option.map_eq_some_iff.1 hie
  simp only [Prod.mk.injEq] at hz
  obtain ⟨hz0, hz1, hz2⟩ := hz
  refine wp_append_lies _ s x t ho base e i z size bytes ht hi hz0 hz1 hz2 hzs hsz v n xs hs hown ⟨B, 0, none⟩ 1 c us.toList hx (by omega) (World.news_of_block hB) hu (by decide) (by unfold maxLen; omega)
    (by have := Nat.mul_le_mul_left (n + 1) hb64; omega) hbase _ rfl ?_
  intro g cap w' h1 h2 h3 _
  refine h g cap w' h1 ((Below.refl _ _).grown h2 hbase (fun k hk => (hown.lt k hk).1)) ?_ (fun k hk hne => h2.block k hk hne)
  rcases h3 with h3 | h3
  · exact .inl h3
  · right; omega
theorem Tryz.writeSize : (Tryz.prog.info? 187).map (·.size) = some 65 := by kernel_rfl
def wrC (i : Nat) (xs : List Int) : Array Value := (Value.int .i64 i :: u8s xs).toArray
theorem DkR.app {D : Nat → Prop} {w3 w4 w5 : World} {b0 bl : Nat} {wv : Value} {d : Dk} (h : DkR w3 D b0 bl wv d) (hb4 : Below w3.heap.size w3 w4) {g cap i : Nat} {xs : List Int} (hown : w5.ownsRow 0 187 65 (.slice (some ⟨g, 0, none⟩) (d.waits.length + 1) cap) (d.waits.length + 1) (waitC d.waits ++ (wrC i xs).toList))
    (hb5 : Below 0 w4 w5) (hg : wv.ownBlock = some g ∨ w4.heap.size ≤ g) (hk : ∀ k, k < w4.heap.size → some k ≠ wv.ownBlock → w5.heap[k]? = w4.heap[k]?) (hi : i < d.l.length) (hx : BlkOk xs) (hf : d.waits.length < 1000000) :
    DkR (w5.setCell ⟨b0, 1, none⟩ (.slice (some ⟨g, 0, none⟩) (d.waits.length + 1) cap)) (fun k => D k ∨ k = g) b0 bl (.slice (some ⟨g, 0, none⟩) (d.waits.length + 1) cap) { d with waits := d.waits ++ [(i, xs)] } ∧ Moved D (fun k => D k ∨ k = g) w3 (w5.setCell ⟨b0, 1, none⟩ (.slice (some ⟨g, 0, none⟩) (d.waits.length + 1) cap)) := by
  have hlt3 : ∀ k, D k → k < w3.heap.size := h.lt
  have hsame : ∀ k, D k → some k ≠ wv.ownBlock → w5.heap[k]? = w3.heap[k]? := fun k hd hn => (hk k (Nat.lt_of_lt_of_le (h.lt k hd) hb4.size) hn).trans (hb4.block k (h.lt k hd))
  have hb0n : some b0 ≠ wv.ownBlock := fun e => (h.dw b0 e.symm).2.1 rfl
  have hbln : some bl ≠ wv.ownBlock := fun e => (h.dw bl e.symm).2.2 rfl
  have hgb0 : g ≠ b0 := by
    rcases hg with e | e
    · exact (h.dw g e).2.1
    · have := h.lt _ h.d0; have := hb4.size; omega
  have hgbl : g ≠ bl := by
    rcases hg with e | e
    · exact (h.dw g e).2.2
    · have := h.lt _ h.dl; have := hb4.size; omega
  have hs35 : w3.heap.size ≤ w5.heap.size := Nat.le_trans hb4.size hb5.size
  have hg5 : g < w5.heap.size := (hown.lt g rfl).2
  have hsz : (w5.setCell ⟨b0, 1, none⟩ (.slice (some ⟨g, 0, none⟩) (d.waits.length + 1) cap)).heap.size = w5.heap.size := by simp [World.setCell]
  have hbl5 : (w5.setCell ⟨b0, 1, none⟩ (.slice (some ⟨g, 0, none⟩) (d.waits.length + 1) cap)).heap[bl]? = w3.heap[bl]? := (Below.heap_setCell _ _ _ _ h.ne).trans (hsame bl h.dl hbln)
  have hc5 : w5.heap[b0]? = some (.cells #[.slice (some ⟨bl, 0, none⟩) d.l.length d.l.length, wv, .int .i64 d.left, .bool d.down] 102 (0, 0)) := (hsame b0 h.d0 hb0n).trans h.cells
  have hok := h.ok
  refine ⟨⟨by simpa using heap_setCell_same w5 b0 1 _ _ (.slice (some ⟨g, 0, none⟩) (d.waits.length + 1) cap) hc5, fun j b hj => range_same hbl5 (h.rows j b hj), fun j hj => there_same hbl5 (h.there j hj), ?_, fun k hk' => ?_, Or.inl h.d0, Or.inl h.dl, fun k hk' => ?_, h.ne, ?_⟩, ⟨⟨?_, ?_, ?_, ?_, ?_⟩, fun k hd => Or.inl hd, fun k hk' => ?_⟩⟩
  · have e1 : waitC (d.waits ++ [(i, xs)]) = waitC d.waits ++ (wrC i xs).toList := by simp [waitC, wrC]
    simp only [List.length_append, List.length_cons, List.length_nil]
    rw [e1]
    exact own_keep hown (fun k hk' => Below.heap_setCell _ _ _ _ (by cases hk'; exact hgb0))
  · rw [hsz]
    rcases hk' with e | rfl
    · exact Nat.lt_of_lt_of_le (h.lt k e) hs35
    · exact hg5
  · cases hk'; exact ⟨Or.inr rfl, hgb0, hgbl⟩
  · exact ⟨hok.some, hok.blk, fun x hx' => by
      rcases List.mem_append.1 hx' with e | e
      · exact hok.wait x e
      · have := List.mem_singleton.1 e; subst this; exact ⟨hi, hx⟩, by simp; omega, hok.left⟩
  · exact hb5.os.trans hb4.os
  · exact hb5.tape.trans hb4.tape
  · exact hb5.output.trans hb4.output
  · rw [hsz]; exact hs35
  · intro k hk' hn
    rw [Below.heap_setCell _ _ _ _ (fun e => hn (by rw [e]; exact h.d0))]
    exact (hk k (Nat.lt_of_lt_of_le hk' hb4.size) (fun e => hn (h.dw k e.symm).1)).trans (hb4.block k hk')
  · rcases hk' with e | rfl
    · exact Or.inl e
    · rcases hg with e | e
      · exact Or.inl (h.dw k e).1
      · exact Or.inr (Nat.le_trans hb4.size e)
attribute [local go_sem ↓] ex_rowLoad ex_rowBuild
set_option maxHeartbeats 1000000 in
theorem dk_write1 {D : Nat → Prop} {w : World} {b0 bl : Nat} {wv : Value} {d : Dk} (h : DkR w D b0 bl wv d) (hd : d.down = false) (h0 : d.left ≠ 0) {i : Nat} (hi : i < d.l.length) {v : Value} {xs : List Int} (hv : SlR w v (u8s xs)) (hx : BlkOk xs) (ho : Off D v) (hf : d.waits.length < 1000000) :
    Calls Tryz.prog 118 #[.pointer (some ⟨b0, 0, none⟩), .int .i64 i, v] w fun e w' => e = .returned (.int .i64 0) ∧ ∃ D', DkO b0 D' w' { d with left := max (d.left - 1) (-1), waits := d.waits ++ [(i, xs)] } ∧ Moved D D' w w' := by
  have HAt := Lib.hid (dk_at h hi)
  have HCn := Lib.hid (dk_counts1 h h0)
  have H := Lib.hid h
  have HV := Lib.hid hv
  have HX := Lib.hid hx
  have HO := Lib.hid ho
  have HL := Lib.hid hx.1
  obtain ⟨vo, vc, rfl, _, _⟩ := id hv.form
  simp only [List.length_map] at hv
  have hl64 := hx.1
  rw [hd] at HAt
  clear h hv hx ho h0 hd
  go_enter Tryz.func118, Tryz.ntmps118
  go_wp2_with fail
  refine HAt.out.mono ?_
  rintro e w1 ⟨rfl, rfl⟩
  simp only [List.length_map, hl64]
  clear hl64 HAt
  go_wp2_with fail
  refine HCn.out.mono ?_
  rintro e w2 ⟨rfl, h2, hk2⟩
  have hv2 := ((HV.out.keep hk2 (fun k hk he => HO.out k hk (by rw [he]; exact H.out.d0))).below (below_lit w2 (.cells (wrC i zeroB) 187 (0, 0))) (Nat.le_refl _))
  obtain ⟨va, rfl, _⟩ := hv2.at' (m := 0) (u := .int .u8 (xs.getD 0 0)) (by
    have := HL.out
    cases xs with
    | nil => cases this
    | cons a r => rfl)
  have hcp : ∀ ty, (Builtin.copy_ #[27, 27] ty #[.slice (some ⟨w2.heap.size, 1, none⟩) 64 64, .slice (some va) 64 vc]).run Tryz.prog (w2.alloc (.cells (wrC i zeroB) 187)) = .ok (goInt 64) (w2.alloc (.cells (wrC i xs) 187)) := fun ty => by
    have h := run_copy_row (P := Tryz.prog) (w2.alloc (.cells (wrC i zeroB) 187)) 27 27 ty 5 w2.heap.size 1 64 64 va 64 vc (wrC i zeroB) 187 (u8s xs) Tryz.underlying27 (by kernel_rfl) (heap_alloc_new _ _) (by simp [HL.out]) (fun j u hj => hv2.cell j u hj) (by simp [HL.out, wrC, zeroB]) (u8s_one xs)
    rw [h, setRow_alloc]
    have e1 : ((wrC i zeroB).toList.take 1 ++ u8s xs ++ (wrC i zeroB).toList.drop (1 + (u8s xs).length)).toArray = wrC i xs := by
      have : (u8s xs).length = 64 := by rw [List.length_map]; exact HL.out
      rw [this]
      have h2 : (wrC i zeroB).toList.drop 65 = [] := List.drop_eq_nil_of_le (by simp [wrC, zeroB])
      rw [show 1 + 64 = 65 from rfl, h2]
      simp [wrC]
    rw [e1]
    simp [HL.out]
  have HCp := Lib.hid hcp
  have H2 := Lib.hid h2
  have HK2 := Lib.hid hk2
  have hcp3 := HCp.out 3
  clear h2 hk2 HCn hv2 hcp
  go_wp2_with (first
    | (refine wpList_buildA rfl 187 _ rfl (wrC i zeroB) (by kernel_rfl) ?_)
    | (refine wpList_fill rfl 187 (.tmp 9) (.tmp 25) rfl w2.heap.size rfl (wrC i zeroB) _ _ rfl rfl (by kernel_rfl) (by kernel_rfl) (by kernel_rfl) ?_)
    | fail)
  have H3 := Lib.hid (H2.out.keep (Below.keep0 (fun _ => False) (below_lit w2 (.cells (wrC i xs) 187 (0, 0)))) (fun k hk => hk.elim))
  have HM3 : Hid (Moved D D w (w2.alloc (.cells (wrC i xs) 187))) := Lib.hid ⟨(HK2.out.mono (fun k _ he => by rw [he]; exact H.out.d0)).alloc _, fun _ h => h, fun k h => Or.inl h⟩
  have HG : Hid ((w2.alloc (.cells (wrC i xs) 187)).heap[w2.heap.size]? = some (.cells (wrC i xs) 187 (0, 0))) := Lib.hid (heap_alloc_new _ _)
  have HGD : Hid (¬ D w2.heap.size) := Lib.hid (fun hd => by have := H2.out.lt _ hd; omega)
  clear HCp hcp3 H2 HK2 H HV HO
  generalize w2.heap.size = WG at *
  generalize w2.alloc (.cells (wrC i xs) 187) = w3 at *
  obtain ⟨c0, c1, c2, c3, f0, f1, f2, f3⟩ := H3.out.cell
  have hld : ∀ w' : World, w'.heap[WG]? = some (.cells (wrC i xs) 187 (0, 0)) → (rowLoad 187 (.pointer (some ⟨WG, 0, none⟩))).run Tryz.prog w' = .ok (.agg (wrC i xs)) w' := fun w' hS => by
    have := run_rowLoad (P := Tryz.prog) (w := w') 187 WG 0 (wrC i xs).toList _ (fun j u hj => by rw [Nat.zero_add]; have h := World.news_of_block hS j u hj; rwa [Addr.add_mid, Nat.zero_add] at h) Tryz.underlying187 rfl (by
      have : (wrC i xs).toList.length = 65 := by simp [wrC, HL.out]
      rw [this]; exact Tryz.writeSize)
    simpa using this
  have hmk : RowMark 187 := ⟨trivial⟩
  have hmk2 : BuildMark 100 := ⟨trivial⟩
  have HLd := Lib.hid hld
  clear hld
  have hg3d : (rowLoad 187 (.pointer (some ⟨WG, 0, none⟩))).run Tryz.prog w3.drew = .ok (.agg (wrC i xs)) w3.drew := HLd.out _ HG.out
  have hsz : (wrC i xs).size = 65 := by simp [wrC, HL.out]
  have hbs := run_rowBuild (P := Tryz.prog) 100 187 (wrC i xs) 65 72 _ Tryz.underlying100 Tryz.writeInfo (by decide) (by decide) hsz
  have hone : ∀ u ∈ (wrC i xs).toList, u.oneCell' = true := by
    intro u hu
    simp only [wrC, List.mem_cons] at hu
    rcases hu with rfl | hu
    · rfl
    · exact u8s_one xs u hu
  have HF := Lib.hid hf
  clear hf
  have hb4 : Below w3.heap.size w3 (w3.alloc (.cells (wrC i xs) 187)).drew := ((Below.refl w3.heap.size w3).alloc (Nat.le_refl _) (.cells (wrC i xs) 187 (0, 0))).drew
  have hgl : WG < w3.heap.size := (Array.getElem?_eq_some_iff.1 HG.out).1
  have hS4 : (fun w' : World => w'.cell? ⟨b0, 1, none⟩ = some wv ∧ w'.frozen? ⟨b0, 1, none⟩ = false ∧ (rowLoad 187 (.pointer (some ⟨WG, 0, none⟩))).run Tryz.prog w' = .ok (.agg (wrC i xs)) w') (w3.alloc (.cells (wrC i xs) 187)).drew := by
    have hb := hb4.block b0 (H3.out.lt _ H3.out.d0)
    exact ⟨(World.cell?_of_block (a := ⟨b0, 1, none⟩) hb).trans c1, by simp only [World.frozen?, hb] at f1 ⊢; exact f1, HLd.out _ ((hb4.block WG hgl).trans HG.out)⟩
  have hO4 := own_keep H3.out.waits (fun k hk => (hb4.block k (H3.out.lt k (H3.out.dw k hk).1)))
  have hB4 : (w3.alloc (.cells (wrC i xs) 187)).drew.heap[w3.heap.size]? = some (.cells (wrC i xs) 187 (0, 0)) := heap_alloc_new w3 _
  have HB4 := Lib.hid hb4
  have HO4 := Lib.hid hO4
  have HBB4 := Lib.hid hB4
  clear hb4 hO4 hB4
  have hblt : b0 < w3.heap.size := H3.out.lt _ H3.out.d0
  have hfew2 : d.waits.length ≤ 1000000000 := by have := HF.out; omega
  go_region_law ((
     (refine step_appW rfl (.tmp 34) (.tmp 36) 100 rfl 0 187 _ 65 72 Tryz.underlying100 Tryz.writeInfo (by kernel_rfl) (by decide) (by decide) rfl rfl HBB4.out hsz HO4.out hone hfew2 (Nat.zero_le _) ?_)
     intro g5 cap5 w5 hown5 hb5 hg5 hk5
     have hb05 := (hk5 b0 (Nat.lt_of_lt_of_le (H3.out.lt _ H3.out.d0) HB4.out.size) (fun e => (H3.out.dw b0 e.symm).2.1 rfl)).trans (HB4.out.block b0 (H3.out.lt _ H3.out.d0))
     have c15 : w5.cell? ⟨b0, 1, none⟩ = some wv := (World.cell?_of_block (a := ⟨b0, 1, none⟩) hb05).trans c1
     have f15 : w5.frozen? ⟨b0, 1, none⟩ = false := by simp only [World.frozen?, hb05] at f1 ⊢; exact f1
     have HB05 := Lib.hid hb05
     have HO5 := Lib.hid hown5
     have HG5 := Lib.hid hg5
     have HK5 := Lib.hid hk5
     have HB5 := Lib.hid hb5
     clear hown5 hb5 hg5 hk5 hb05))
  all_goals
    clear hmk hmk2
    go_wp2_with fail
    go_ret
    have hr := H3.out.app HB4.out HO5.out HB5.out HG5.out HK5.out hi HX.out HF.out
    exact ⟨rfl, _, ⟨_, _, hr.1⟩, HM3.out.trans hr.2⟩
end Go.Proofs.YtgmdedkingampaaGreat

namespace Go.Proofs.YtgmdedkingampaaGreat
open Go.ChangeShapes Go.WideShapes Go.ChangeAt Go.RowKit Go.Maps
set_option maxRecDepth 100000
set_option linter.unusedVariables false
set_option linter.unusedSimpArgs false

theorem dk_writeDown {D : Nat → Prop} {w : World} {b0 bl : Nat} {wv : Value} {d : Dk} (h : DkR w D b0 bl wv d) (hd : d.down = true) {i : Nat} (hi : i < d.l.length) {v : Value} {xs : List Int} (hv : SlR w v (u8s xs)) :
    Calls Tryz.prog 118 #[.pointer (some ⟨b0, 0, none⟩), .int .i64 i, v] w fun e w' => e = .returned (.int .i64 20) ∧ w = w' := by
  have HAt := Lib.hid (dk_at h hi)
  rw [hd] at HAt
  obtain ⟨vo, vc, rfl, _, _⟩ := id hv.form
  clear h hv hd
  go_enter Tryz.func118, Tryz.ntmps118
  go_wp2_with fail
  refine HAt.out.mono ?_
  rintro e w1 ⟨rfl, rfl⟩
  go_wp2_with fail
  go_ret
  exact ⟨rfl, rfl⟩
theorem dk_write0 {D : Nat → Prop} {w : World} {b0 bl : Nat} {wv : Value} {d : Dk} (h : DkR w D b0 bl wv d) (hd : d.down = false) (h0 : d.left = 0) {i : Nat} (hi : i < d.l.length) {v : Value} {xs : List Int} (hv : SlR w v (u8s xs)) (hx : xs.length = 64) :
    Calls Tryz.prog 118 #[.pointer (some ⟨b0, 0, none⟩), .int .i64 i, v] w fun e w' => e = .returned (.int .i64 20) ∧ DkR w' D b0 bl wv { d with down := true } ∧ Keep (fun k => k = b0) w w' := by
  have HAt := Lib.hid (dk_at h hi)
  have HCn := Lib.hid (dk_counts0 h h0)
  rw [hd] at HAt
  obtain ⟨vo, vc, rfl, _, _⟩ := id hv.form
  simp only [List.length_map, hx]
  clear h hv hd h0 hx
  go_enter Tryz.func118, Tryz.ntmps118
  go_wp2_with fail
  refine HAt.out.mono ?_
  rintro e w1 ⟨rfl, rfl⟩
  go_wp2_with fail
  refine HCn.out.mono ?_
  rintro e w2 ⟨rfl, h2, hk2⟩
  have H2 := Lib.hid h2
  have HK2 := Lib.hid hk2
  clear h2 hk2
  go_wp2_with fail
  go_ret
  exact ⟨rfl, H2.out, HK2.out⟩
attribute [local go_sem ↓] ex_rowLoad ex_rowStore
set_option maxHeartbeats 1000000 in
/-- A block is read where nothing waits. -/
theorem dk_read {D : Nat → Prop} {w : World} {b0 bl : Nat} {wv : Value} {d : Dk} (h : DkR w D b0 bl wv d) (hd : d.down = false) (hw : d.waits = []) {i : Nat} {xs : List Int} (hi : d.l[i]? = some xs) :
    Calls Tryz.prog 125 #[.pointer (some ⟨b0, 0, none⟩), .int .i64 i] w fun e w' => ∃ v', e = .returned (.tuple #[v', .int .i64 0]) ∧ w'.ownsRow w.heap.size 5 1 v' xs.length (u8s xs) ∧ Below w.heap.size w w' := by
  have hlt : i < d.l.length := (List.getElem?_eq_some_iff.1 hi).1
  have HAt := Lib.hid (dk_at h hlt)
  rw [hd] at HAt
  have hx := h.ok.blk xs (List.mem_of_getElem? hi)
  obtain ⟨c0, c1, c2, c3, f0, f1, f2, f3⟩ := h.cell
  have hlt2 : (i : Int) < (d.l.length : Int) := by omega
  have hwv : wv = .slice none 0 0 ∨ ∃ a c, wv = .slice a 0 c := by
    obtain ⟨a, c, e, _, _⟩ := own_form h.waits
    rw [hw] at e
    exact Or.inr ⟨a, c, e⟩
  obtain ⟨wa, wc, rfl⟩ : ∃ a c, wv = .slice a 0 c := by
    rcases hwv with rfl | h
    · exact ⟨none, 0, rfl⟩
    · exact h
  have hsz : (u8s xs).toArray.size = 64 := by simp [hx.1]
  have hinfo : (Tryz.prog.info? 185).map (·.size) = some 64 := by kernel_rfl
  have hrl := run_rowLoad (P := Tryz.prog) (w := w) 185 bl (i * 64) (u8s xs) _ (h.rows i xs hi) Tryz.underlying185 rfl (by rw [hinfo]; simp [hx.1])
  have hrs := fun old : Array Value => fun hold : old.size = 64 => run_rowStoreB (P := Tryz.prog) (w := w.alloc (.cells old 185)) 185 w.heap.size (u8s xs).toArray 185 old (heap_alloc_new w _) (by rw [hinfo, hsz]) (by rw [hsz, hold]) (all_oneCell_toArray (u8s_one xs))
  have hblt : b0 < w.heap.size := h.lt _ h.d0
  have hzz : (Array.replicate 64 (Value.int .u8 0)).size = 64 := by simp
  have hst := hrs (Array.replicate 64 (.int .u8 0)) hzz
  rw [setRow_alloc, show Array.replicate 64 (Value.int .u8 0) = #[.int .u8 0, .int .u8 0, .int .u8 0, .int .u8 0, .int .u8 0, .int .u8 0, .int .u8 0, .int .u8 0, .int .u8 0, .int .u8 0, .int .u8 0, .int .u8 0, .int .u8 0, .int .u8 0, .int .u8 0, .int .u8 0, .int .u8 0, .int .u8 0, .int .u8 0, .int .u8 0, .int .u8 0, .int .u8 0, .int .u8 0, .int .u8 0, .int .u8 0, .int .u8 0, .int .u8 0, .int .u8 0, .int .u8 0, .int .u8 0, .int .u8 0, .int .u8 0, .int .u8 0, .int .u8 0, .int .u8 0, .int .u8 0, .int .u8 0, .int .u8 0, .int .u8 0, .int .u8 0, .int .u8 0, .int .u8 0, .int .u8 0, .int .u8 0, .int .u8 0, .int .u8 0, .int .u8 0, .int .u8 0, .int .u8 0, .int .u8 0, .int .u8 0, .int .u8 0, .int .u8 0, .int .u8 0, .int .u8 0, .int .u8 0, .int .u8 0, .int .u8 0, .int .u8 0, .int .u8 0, .int .u8 0, .int .u8 0, .int .u8 0, .int .u8 0] from by rfl] at hst
  have H := Lib.hid h
  have HX := Lib.hid hx
  clear h hi hd hw hx hwv hrs hzz
  go_enter Tryz.func125, Tryz.ntmps125
  go_wp2_with fail
  refine HAt.out.mono ?_
  rintro e w1 ⟨rfl, rfl⟩
  clear HAt
  have hMk : RowMark 185 := ⟨trivial⟩
  go_wp2_with fail
  have hb0 := below_lit w (.cells (u8s xs).toArray 185)
  have hn0 := heap_alloc_new w (.cells (u8s xs).toArray 185 (0, 0))
  have HB0 := Lib.hid hb0
  have HN0 := Lib.hid hn0
  clear hb0 hn0 hst hrl hMk c0 c1 c2 c3 f0 f1 f2 f3
  have hgl : w.heap.size < (w.alloc (.cells (u8s xs).toArray 185)).heap.size := by simp
  have HGl := Lib.hid hgl
  clear hgl
  generalize w.alloc (.cells (u8s xs).toArray 185) = w1 at *
  go_loopw [28] (fun i wr => i = .int .i64 0 ∧ Below w.heap.size w wr ∧ wr.heap[w.heap.size]? = some (.cells (u8s xs).toArray 185 (0, 0))) (fun _ _ => 0)
  case atStart => exact ⟨rfl, HB0.out, HN0.out⟩
  case round =>
    obtain ⟨rfl, hbr, hnr⟩ := hrel
    have HBr := Lib.hid hbr
    have hrow : SlR wr (.slice (some ⟨w.heap.size, 0, none⟩) 64 64) (u8s xs) := by
      have hl : (u8s xs).length = 64 := by rw [List.length_map]; exact HX.out.1
      exact ⟨_, 64, by rw [hl], by rw [hl]; omega, by unfold maxLen; omega, fun i u hi => ⟨_, rfl, World.news_of_block hnr i u (by simpa using hi)⟩⟩
    have HCl := Lib.hid (cloneB_any hrow (by have := HX.out.1; omega))
    clear hbr hnr hrow
    go_wp2_with fail
    refine HCl.out.mono ?_
    rintro e w3 ⟨v', rfl, hown, hb3⟩
    have HO := Lib.hid (hown.weaken (base' := w.heap.size) HBr.out.size)
    have HB3 := Lib.hid (HBr.out.trans (hb3.mono HBr.out.size))
    clear hown hb3
    go_wp2_with fail
    go_returns
    exact ⟨v', rfl, HO.out, HB3.out⟩
end Go.Proofs.YtgmdedkingampaaGreat

namespace Go.Proofs.YtgmdedkingampaaGreat
open Go.ChangeShapes Go.WideShapes Go.ChangeAt Go.RowKit Go.Maps
set_option maxRecDepth 100000
set_option linter.unusedVariables false
set_option linter.unusedSimpArgs false

theorem setCells_other (b : Nat) : ∀ (vs : List Value) (o : Nat) (w : World) (k : Nat), k ≠ b → (w.setCells b o vs).heap[k]? = w.heap[k]?
  | [], _, _, _, _ => rfl
  | v :: r, o, w, k, h => by
    rw [World.setCells, setCells_other b r (o + 1) _ k h]
    exact Below.heap_setCell _ _ _ _ h
theorem setCells_size (b : Nat) : ∀ (vs : List Value) (o : Nat) (w : World), (w.setCells b o vs).heap.size = w.heap.size
  | [], _, _ => rfl
  | v :: r, o, w => by
    rw [World.setCells, setCells_size b r (o + 1)]
    simp [World.setCell]
theorem setCells_keep (b : Nat) : ∀ (vs : List Value) (o : Nat) (w : World), Keep (fun k => k = b) w (w.setCells b o vs)
  | [], _, _ => Keep.refl _ _
  | v :: r, o, w => by
    rw [World.setCells]
    exact (cells_keep w b o v).trans (setCells_keep b r (o + 1) _)
theorem DkR.setBlk {D : Nat → Prop} {w : World} {b0 bl : Nat} {wv : Value} {d : Dk} (h : DkR w D b0 bl wv d) {i : Nat} {b : List Int} (hi : i < d.l.length) (hb : BlkOk b) :
    DkR (w.setCells bl (i * 64) (u8s b)) D b0 bl wv { d with l := d.l.set i b } := by
  have hk := setCells_keep bl (u8s b) (i * 64) w
  have hl : (u8s b).length = 64 := by rw [List.length_map]; exact hb.1
  have hoth : ∀ k, k ≠ bl → (w.setCells bl (i * 64) (u8s b)).heap[k]? = w.heap[k]? := fun k hk' => setCells_other bl (u8s b) (i * 64) w k hk'
  have hok := h.ok
  refine ⟨?_, fun j x hj => ?_, fun j hj => ?_, own_keep h.waits (fun k hv => hoth k (h.dw k hv).2.2), fun k hd => Nat.lt_of_lt_of_le (h.lt k hd) hk.size, h.d0, h.dl, h.dw, h.ne, ?_⟩
  · simp only [List.length_set]
    exact (hoth b0 (fun e => h.ne e.symm)).trans h.cells
  · by_cases e : i = j
    · subst e
      rw [List.getElem?_set_self hi] at hj
      cases hj
      exact World.rangeAt_setCells_same w bl (i * 64) (u8s b) (by rw [hl]; exact h.there i hi)
    · rw [List.getElem?_set_ne e] at hj
      have hx := (h.ok.blk x (List.mem_of_getElem? hj)).1
      refine World.rangeAt_setCells_apart (h.rows j x hj) bl (i * 64) (u8s b) (Or.inr ?_)
      rw [hl, List.length_map, hx]
      omega
  · simp only [List.length_set] at hj
    exact World.there_setCells (h.there j hj) bl (i * 64) (u8s b)
  · refine ⟨by simp only [List.length_set]; exact hok.some, fun x hx => ?_, fun x hx => by simp only [List.length_set]; exact hok.wait x hx, hok.few, hok.left⟩
    rcases List.mem_or_eq_of_mem_set hx with hx | rfl
    · exact hok.blk x hx
    · exact hb
/-- The blocks behind these writes. -/
def applyW (l : List (List Int)) (ws : List (Nat × List Int)) : List (List Int) := ws.foldl (fun l x => l.set x.1 x.2) l
theorem applyW_snoc (l : List (List Int)) (ws : List (Nat × List Int)) (x : Nat × List Int) : applyW l (ws ++ [x]) = (applyW l ws).set x.1 x.2 := by simp [applyW]
theorem applyW_length (l : List (List Int)) : ∀ (ws : List (Nat × List Int)), (applyW l ws).length = l.length := by
  intro ws
  induction ws generalizing l with
  | nil => rfl
  | cons x r ih => unfold applyW at *; rw [List.foldl_cons, ih]; simp
theorem wait_range {w : World} {g c : Nat} {ws : List (Nat × List Int)} (h : w.ownsRow 0 187 65 (.slice (some ⟨g, 0, none⟩) ws.length c) ws.length (waitC ws)) (hok : ∀ x ∈ ws, x.2.length = 64) {k : Nat} {x : Nat × List Int} (hx : ws[k]? = some x) :
    w.rangeAt g (k * 65) (wrC x.1 x.2).toList := by
  have hflat : ∀ (ws : List (Nat × List Int)) (k : Nat) (x : Nat × List Int), (∀ x ∈ ws, x.2.length = 64) → ws[k]? = some x → ∀ j v, (wrC x.1 x.2).toList[j]? = some v → (waitC ws)[k * 65 + j]? = some v := by
    intro ws
    induction ws with
    | nil => intro k x _ h; simp at h
    | cons y r ih =>
      intro k x hall hk j v hv
      have hy : (Value.int .i64 y.1 :: u8s y.2).length = 65 := by simp [hall y (by simp)]
      have e : waitC (y :: r) = (Value.int .i64 y.1 :: u8s y.2) ++ waitC r := rfl
      rw [e]
      cases k with
      | zero =>
        simp at hk
        subst hk
        have hj : j < 65 := by
          have := (List.getElem?_eq_some_iff.1 hv).1
          simp [wrC, hall y (by simp)] at this
          omega
        rw [Nat.zero_mul, Nat.zero_add, List.getElem?_append_left (by rw [hy]; exact hj)]
        simpa [wrC] using hv
      | succ k =>
        rw [List.getElem?_append_right (by rw [hy]; omega), hy, show (k + 1) * 65 + j - 65 = k * 65 + j by omega]
        exact ih k x (fun z hz => hall z (by simp [hz])) (by simpa using hk) j v hv
  intro j v hv
  have h2 := hflat ws k x hok hx j v hv
  obtain ⟨hlen, hor⟩ := h
  rcases hor with ⟨hn, _⟩ | ⟨g', cap, cur, he, hb, hg, hnc, hcm, hcs, htake⟩
  · cases hn
  · cases he
    have h3 : cur.toList[k * 65 + j]? = some v := by
      rw [← htake] at h2
      rw [List.getElem?_take] at h2
      split at h2
      · exact h2
      · cases h2
    simp only [World.cell?, hg]
    simpa using h3
def dkSync (d : Dk) : Dk := { d with left := max (d.left - 1) (-1), l := applyW d.l d.waits, waits := [] }
attribute [local go_sem ↓] ex_rowLoad ex_rowStore
set_option maxHeartbeats 1000000 in
theorem dk_sync1 {D : Nat → Prop} {w : World} {b0 bl : Nat} {wv : Value} {d : Dk} (h : DkR w D b0 bl wv d) (hd : d.down = false) (h0 : d.left ≠ 0) :
    Calls Tryz.prog 120 #[.pointer (some ⟨b0, 0, none⟩)] w fun e w' => e = .returned (.int .i64 0) ∧ DkO b0 D w' (dkSync d) ∧ Keep D w w' := by
  have HUp := Lib.hid (dk_up h)
  have HCn := Lib.hid (dk_counts1 h h0)
  have H := Lib.hid h
  rw [hd] at HUp
  clear h hd h0
  go_enter Tryz.func120, Tryz.ntmps120
  go_wp2_with fail
  refine HUp.out.mono ?_
  rintro e w1 ⟨rfl, rfl⟩
  go_wp2_with fail
  refine HCn.out.mono ?_
  rintro e w2 ⟨rfl, h2, hk2⟩
  have H2 := Lib.hid h2
  have HK2 := Lib.hid (hk2.mono (fun k _ e => by rw [e]; exact H.out.d0 : ∀ k, k < w.heap.size → k = b0 → D k))
  obtain ⟨c0, c1, c2, c3, f0, f1, f2, f3⟩ := h2.cell
  obtain ⟨wa, wc, rfl, hwc1, hwc2⟩ := own_form h2.waits
  have hlen : d.waits.length ≤ 1000000 := H.out.ok.few
  clear h2 hk2 HCn HUp
  go_wp2_with fail
  clear c0 c1 c2 c3 f0 f1 f2 f3
  go_loopw [22] (fun i wr => ∃ k : Nat, k ≤ d.waits.length ∧ i = .int .i64 k ∧ DkR wr D b0 bl (.slice wa d.waits.length wc) { d with left := max (d.left - 1) (-1), l := applyW d.l (d.waits.take k) } ∧ Keep D w wr) (fun i _ => d.waits.length - (intOf i).toNat)
  case atStart => exact ⟨0, by omega, rfl, H2.out, HK2.out⟩
  case round =>
    clear H2 HK2
    obtain ⟨k, hk, rfl, hr, hkr⟩ := hrel
    have HR := Lib.hid hr
    have HKr := Lib.hid hkr
    clear hr hkr
    by_cases hlt : k < d.waits.length
    · have hlt2 : (k : Int) < (d.waits.length : Int) := by omega
      obtain ⟨x, hx⟩ : ∃ x, d.waits[k]? = some x := ⟨_, List.getElem?_eq_getElem hlt⟩
      obtain ⟨xi, xb⟩ := x
      have hxok := H.out.ok.wait (xi, xb) (List.mem_of_getElem? hx)
      obtain ⟨g, rfl⟩ : ∃ g, wa = some ⟨g, 0, none⟩ := by
        obtain ⟨g, cap, e, _⟩ := HR.out.waits.form (by show 0 < d.waits.length; omega)
        cases e
        exact ⟨g, rfl⟩
      have hrange := wait_range HR.out.waits (fun y hy => (H.out.ok.wait y hy).2.1) hx
      have hsz : (wrC xi xb).size = 65 := by simp [wrC, hxok.2.1]
      have hrl := run_rowLoad (P := Tryz.prog) (w := wr) 187 g (k * 65) (wrC xi xb).toList _ hrange Tryz.underlying187 rfl (by rw [Tryz.writeSize]; simp [hsz])
      have hMk : RowMark 187 := ⟨trivial⟩
      simp only [Array.toArray_toList] at hrl
      have hall : (wrC xi xb).all (·.oneCell') = true := by
        have := all_oneCell_toArray (cs := (Value.int .i64 xi :: u8s xb)) (fun v hv => by
          rcases List.mem_cons.1 hv with rfl | hv
          · rfl
          · exact u8s_one xb v hv)
        exact this
      clear hrange
      go_wp2_with (first
        | (refine wpList_fill rfl 187 (.tmp 6) (.tmp 25) rfl wr.heap.size rfl (wrC xi xb) _ _ rfl rfl (by rw [hsz]; exact Tryz.writeSize) (by rw [hsz]; kernel_rfl) hall ?_)
        | fail)
      clear hrl hMk
      have hw3 := HR.out.keep (Below.keep0 (fun _ => False) (below_lit wr (.cells (wrC xi xb) 187 (0, 0)))) (fun k hk => hk.elim)
      have HW3 := Lib.hid (hw3.keep (Below.keep0 (fun _ => False) (Below.refl _ _).drew) (fun k hk => hk.elim) : DkR (wr.alloc (.cells (wrC xi xb) 187)).drew _ _ _ _ _)
      have HK3 : Hid (Keep D w (wr.alloc (.cells (wrC xi xb) 187)).drew) := Lib.hid ((HKr.out.alloc _).drew)
      have hg3 : (wr.alloc (.cells (wrC xi xb) 187)).heap[wr.heap.size]? = some (.cells (wrC xi xb) 187 (0, 0)) := heap_alloc_new wr _
      have g0 : (wr.alloc (.cells (wrC xi xb) 187)).cell? ⟨wr.heap.size, 0, none⟩ = some (.int .i64 xi) := World.news_of_block hg3 0 _ rfl
      have hr1 : (wr.alloc (.cells (wrC xi xb) 187)).drew.rangeAt wr.heap.size 1 (u8s xb) := fun j v hv => by
        have hh : (wr.alloc (.cells (wrC xi xb) 187)).drew.heap[wr.heap.size]? = some (.cells (wrC xi xb) 187 (0, 0)) := hg3
        simp only [World.cell?, hh]
        simpa [wrC, Nat.add_comm 1 j] using hv
      have hinfo : (Tryz.prog.info? 185).map (·.size) = some 64 := by kernel_rfl
      have hl64 : (u8s xb).length = 64 := by simp [hxok.2.1]
      have hrl := run_rowLoad (P := Tryz.prog) (w := (wr.alloc (.cells (wrC xi xb) 187)).drew) 185 wr.heap.size 1 (u8s xb) _ hr1 Tryz.underlying185 rfl (by rw [hinfo, hl64])
      have hlenA : (applyW d.l (d.waits.take k)).length = d.l.length := applyW_length _ _
      have hrs := run_rowStore (P := Tryz.prog) (w := (wr.alloc (.cells (wrC xi xb) 187)).drew) 185 bl (xi * 64) (u8s xb).toArray (by
        simp only [List.size_toArray, hl64]
        exact HW3.out.there xi (by show xi < (applyW d.l (d.waits.take k)).length; rw [hlenA]; exact hxok.1)) (by rw [hinfo]; simp [hxok.2.1]) (all_oneCell_toArray (u8s_one xb))
      have hxi2 : (xi : Int) < (d.l.length : Int) := by have := hxok.1; omega
      obtain ⟨c0, c1, c2, c3, f0, f1, f2, f3⟩ := hw3.cell
      simp only [hlenA] at c0
      have HX := Lib.hid hx
      have HXo := Lib.hid hxok
      have hMk : RowMark 185 := ⟨trivial⟩
      clear hw3 hr1 hg3 hsz hx hxok hall
      generalize wr.heap.size = WG at *
      generalize wr.alloc (.cells (wrC xi xb) 187) = w3 at *
      refine wp_region_still_tail 9 (by kernel_rfl) (by kernel_rfl) ?_
      simp only [List.take_succ_cons, List.take_zero, List.drop_succ_cons, List.drop_zero]
      repeat still_step
      refine wpStill_nil ?_
      go_wp2_with fail
      go_roundw
      case rel =>
        have hb := HW3.out.setBlk (i := xi) (b := xb) (by show xi < (applyW d.l (d.waits.take k)).length; rw [hlenA]; exact HXo.out.1) HXo.out.2
        have e : applyW d.l (d.waits.take (k + 1)) = (applyW d.l (d.waits.take k)).set xi xb := by
          rw [List.take_add_one, HX.out]
          exact applyW_snoc _ _ _
        exact ⟨k + 1, by omega, by go_num, by rw [e]; exact hb, HK3.out.trans ((setCells_keep bl (u8s xb) (xi * 64) _).mono (fun q _ e => by rw [e]; exact HW3.out.dl))⟩
      case measure => simp [intOf]; omega
    · have hkn : k = d.waits.length := by omega
      subst hkn
      have hr := HR.out
      rw [List.take_length] at hr
      obtain ⟨c0, c1, c2, c3, f0, f1, f2, f3⟩ := hr.cell
      have hfin : DkR (wr.setCell ⟨b0, 1, none⟩ (.slice none 0 0)) D b0 bl (.slice none 0 0) (dkSync d) := by
        have hb : ∀ q, q ≠ b0 → (wr.setCell ⟨b0, 1, none⟩ (.slice none 0 0)).heap[q]? = wr.heap[q]? := fun q hq => Below.heap_setCell _ _ _ _ hq
        exact ⟨by simpa [dkSync] using heap_setCell_same wr b0 1 _ _ (.slice none 0 0) hr.cells, fun i b hi => range_same (hb _ hr.ne) (hr.rows i b hi), fun i hi => there_same (hb _ hr.ne) (hr.there i hi), World.ownsRow_nil _ _ _ _, fun q hq => by simpa [World.setCell] using hr.lt q hq, hr.d0, hr.dl, fun q hq => (by cases hq), hr.ne, ⟨hr.ok.some, hr.ok.blk, fun x hx => (by cases hx), by simp [dkSync], hr.ok.left⟩⟩
      have HFin := Lib.hid hfin
      have HKf : Hid (Keep D w (wr.setCell ⟨b0, 1, none⟩ (.slice none 0 0))) := Lib.hid (HKr.out.trans ((cells_keep wr b0 1 _).mono (fun q _ e => by rw [e]; exact hr.d0)))
      clear hr hfin
      go_wp2_with fail
      go_ret
      exact ⟨rfl, ⟨_, _, HFin.out⟩, HKf.out⟩
theorem dk_syncDown {D : Nat → Prop} {w : World} {b0 bl : Nat} {wv : Value} {d : Dk} (h : DkR w D b0 bl wv d) (hd : d.down = true) :
    Calls Tryz.prog 120 #[.pointer (some ⟨b0, 0, none⟩)] w fun e w' => e = .returned (.int .i64 20) ∧ w = w' := by
  have HUp := Lib.hid (dk_up h)
  rw [hd] at HUp
  clear h hd
  go_enter Tryz.func120, Tryz.ntmps120
  go_wp2_with fail
  refine HUp.out.mono ?_
  rintro e w1 ⟨rfl, rfl⟩
  go_wp2_with fail
  go_ret
  exact ⟨rfl, rfl⟩
theorem dk_sync0 {D : Nat → Prop} {w : World} {b0 bl : Nat} {wv : Value} {d : Dk} (h : DkR w D b0 bl wv d) (hd : d.down = false) (h0 : d.left = 0) :
    Calls Tryz.prog 120 #[.pointer (some ⟨b0, 0, none⟩)] w fun e w' => e = .returned (.int .i64 20) ∧ DkR w' D b0 bl wv { d with down := true } ∧ Keep (fun k => k = b0) w w' := by
  have HUp := Lib.hid (dk_up h)
  have HCn := Lib.hid (dk_counts0 h h0)
  rw [hd] at HUp
  clear h hd h0
  go_enter Tryz.func120, Tryz.ntmps120
  go_wp2_with fail
  refine HUp.out.mono ?_
  rintro e w1 ⟨rfl, rfl⟩
  go_wp2_with fail
  refine HCn.out.mono ?_
  rintro e w2 ⟨rfl, h2, hk2⟩
  have H2 := Lib.hid h2
  have HK2 := Lib.hid hk2
  clear h2 hk2
  go_wp2_with fail
  go_ret
  exact ⟨rfl, H2.out, HK2.out⟩
theorem set_self {α : Type} {l : List α} {i : Nat} {a : α} (h : l[i]? = some a) : l.set i a = l := by
  obtain ⟨hi, rfl⟩ := List.getElem?_eq_some_iff.1 h
  exact List.set_getElem_self hi
/-- What Write and Sync answer, and what they leave. -/
def dkWr (d : Dk) (i : Nat) (b : List Int) : Int × Dk := if d.down then (20, d) else if d.left = 0 then (20, { d with down := true }) else (0, { d with left := max (d.left - 1) (-1), waits := d.waits ++ [(i, b)] })
def dkSy (d : Dk) : Int × Dk := if d.down then (20, d) else if d.left = 0 then (20, { d with down := true }) else (0, dkSync d)
section
variable {W w w' : World} {os : List Ob} {b0 : Nat} {D : Nat → Prop} {d : Dk}
theorem SepW.dkWrite (h : SepW W w os) (i : Nat) (hi : os[i]? = some (obDk b0 D d)) {k : Nat} (hk : k < d.l.length) {v : Value} {xs : List Int} (hv : SlR w v (u8s xs)) (hx : BlkOk xs) (ho : Off D v) (hf : d.waits.length < 1000000) :
    Calls Tryz.prog 118 #[.pointer (some ⟨b0, 0, none⟩), .int .i64 k, v] w fun e w' => e = .returned (.int .i64 (dkWr d k xs).1) ∧ ∃ D', SepW W w' (os.set i (obDk b0 D' (dkWr d k xs).2)) ∧ (∀ q, D' q → D q ∨ w.heap.size ≤ q) ∧ Keep D w w' := by
  obtain ⟨bl, wv, hd⟩ := (h.get i hi : DkO b0 D w d)
  unfold dkWr
  by_cases hdn : d.down = true
  · rw [if_pos hdn]
    exact (dk_writeDown hd hdn hk hv).mono fun e w' ⟨h1, h2⟩ => ⟨h1, D, by subst h2; rw [set_self hi]; exact h, fun q hq => Or.inl hq, by subst h2; exact Keep.refl _ _⟩
  · rw [if_neg hdn]
    have hdf : d.down = false := by simpa using hdn
    by_cases h0 : d.left = 0
    · rw [if_pos h0]
      exact (dk_write0 hd hdf h0 hk hv hx.1).mono fun e w' ⟨h1, h2, h3⟩ => ⟨h1, D, h.set i hi (h3.mono (fun q _ e => by rw [e]; exact hd.d0)) (obDk_good ..) ⟨_, _, h2⟩ (fun q hq => Or.inl hq), fun q hq => Or.inl hq, h3.mono (fun q _ e => by rw [e]; exact hd.d0)⟩
    · rw [if_neg h0]
      exact (dk_write1 hd hdf h0 hk hv hx ho hf).mono fun e w' ⟨h1, D', h2, h3⟩ => ⟨h1, D', h.set i hi h3.keep (obDk_good ..) h2 h3.new, h3.new, h3.keep⟩
theorem SepW.dkSync (h : SepW W w os) (i : Nat) (hi : os[i]? = some (obDk b0 D d)) :
    Calls Tryz.prog 120 #[.pointer (some ⟨b0, 0, none⟩)] w fun e w' => e = .returned (.int .i64 (dkSy d).1) ∧ SepW W w' (os.set i (obDk b0 D (dkSy d).2)) := by
  obtain ⟨bl, wv, hd⟩ := (h.get i hi : DkO b0 D w d)
  unfold dkSy
  by_cases hdn : d.down = true
  · rw [if_pos hdn]
    exact (dk_syncDown hd hdn).mono fun e w' ⟨h1, h2⟩ => ⟨h1, by subst h2; rw [set_self hi]; exact h⟩
  · rw [if_neg hdn]
    have hdf : d.down = false := by simpa using hdn
    by_cases h0 : d.left = 0
    · rw [if_pos h0]
      exact (dk_sync0 hd hdf h0).mono fun e w' ⟨h1, h2, h3⟩ => ⟨h1, h.set i hi (h3.mono (fun q _ e => by rw [e]; exact hd.d0)) (obDk_good ..) ⟨_, _, h2⟩ (fun q hq => Or.inl hq)⟩
    · rw [if_neg h0]
      exact (dk_sync1 hd hdf h0).mono fun e w' ⟨h1, h2, h3⟩ => ⟨h1, h.set i hi h3 (obDk_good ..) h2 (fun q hq => Or.inl hq)⟩
theorem SepW.dkRead (h : SepW W w os) (i : Nat) (hi : os[i]? = some (obDk b0 D d)) (hdn : d.down = false) (hw : d.waits = []) {k : Nat} {xs : List Int} (hk : d.l[k]? = some xs) :
    Calls Tryz.prog 125 #[.pointer (some ⟨b0, 0, none⟩), .int .i64 k] w fun e w' => ∃ v', e = .returned (.tuple #[v', .int .i64 0]) ∧ SepW W w' (obRow v' 5 1 xs.length (u8s xs) :: os) ∧ Below w.heap.size w w' := by
  obtain ⟨bl, wv, hd⟩ := (h.get i hi : DkO b0 D w d)
  exact (dk_read hd hdn hw hk).mono fun e w' ⟨v', h1, h2, h3⟩ => ⟨v', h1, h.newRow h2 h3, h3⟩
end
end Go.Proofs.YtgmdedkingampaaGreat
