/-
  Contracts of package gather: Cut.
-/
import Derived.Test.YtabanackdjlcmaaGat2
import Derived.Test.YtabanackdjlcmaaLib6
namespace Go.Proofs.Ytabanackdjlcmaa
open Go.ChangeShapes Go.WideShapes Go.ChangeAt Go.RowKit Go.Maps

theorem Try.confRowInfo : (Try.prog.info? 37).map (fun i => (i.zero, i.size, i.bytes)) = some (some (.agg #[.int .i64 0, .slice none 0 0]), 2, 32) := by kernel_rfl
/-- A shard's new row, where there is one. -/
def newRow (m : Rep) (s : Sh) : Rw := if s.fin = false ∧ sameB (rowL m s.id s.segs s.lens) s.lens = false then [(s.id, rowL m s.id s.segs s.lens)] else []
def cutL (m : Rep) (hs : List Sh) : Rw := hs.flatMap (newRow m)
theorem cutL_take (m : Rep) (hs : List Sh) (k : Nat) (h : k < hs.length) : cutL m (hs.take (k + 1)) = cutL m (hs.take k) ++ newRow m hs[k] := by
  unfold cutL
  rw [List.take_succ_eq_append_getElem h, List.flatMap_append]; simp
theorem cutL_len (m : Rep) (hs : List Sh) (k : Nat) : (cutL m (hs.take k)).length ≤ k := by
  induction k with
  | zero => simp [cutL]
  | succ k ih =>
    by_cases h : k < hs.length
    · rw [cutL_take m hs k h, List.length_append]
      have : (newRow m hs[k]).length ≤ 1 := by unfold newRow; split <;> simp
      omega
    · rw [List.take_of_length_le (by omega)] at ih ⊢
      omega
/-- A command, as the program has it. -/
abbrev cmdV (op client seq shard segs pos : Int) (rv : Value) : Value := .agg #[.int .i64 op, .int .u64 client, .int .u64 seq, .int .i64 shard, .int .i64 segs, .int .u64 pos, rv]
abbrev cmdC (op client seq shard segs pos : Int) (rv : Value) : Array Value := #[.int .i64 op, .int .u64 client, .int .u64 seq, .int .i64 shard, .int .i64 segs, .int .u64 pos, rv]
def ShOk (s : Sh) : Prop := Small s.id ∧ 1 ≤ s.segs ∧ s.segs ≤ 4 ∧ s.lens.length ≤ 1048576

/-- What Cut's loop carries. -/
structure CutI (w : World) (m : Rep) (hs : List Sh) (k : Nat) (rv : Value) (vs : List Value) (wr : World) : Prop where
  below : Below w.heap.size w wr
  b0 : wr.heap[w.heap.size]? = some (.cells (cmdC 0 0 0 0 0 0 (.slice none 0 0)) 46)
  b1 : wr.heap[w.heap.size + 1]? = some (.cells (cmdC 4 0 0 0 0 0 rv) 46)
  own : wr.ownsRow (w.heap.size + 2) 37 2 rv (cutL m (hs.take k)).length vs
  rows : RowsC wr vs (cutL m (hs.take k))
  off : ∀ u ∈ vs, ∀ j, u.ownBlock = some j → rv.ownBlock ≠ some j ∧ w.heap.size + 2 ≤ j ∧ j < wr.heap.size
theorem CutI.size {w : World} {m : Rep} {hs : List Sh} {k : Nat} {rv : Value} {vs : List Value} {wr : World} (h : CutI w m hs k rv vs wr) : w.heap.size + 2 ≤ wr.heap.size := by
  have := (Array.getElem?_eq_some_iff.1 h.b1).1; omega
theorem CutI.step {w : World} {m : Rep} {hs : List Sh} {k : Nat} {rv : Value} {vs : List Value} {wr w' : World} (h : CutI w m hs k rv vs wr) (hb : Below wr.heap.size wr w') : CutI w m hs k rv vs w' := by
  have hs := h.size
  obtain ⟨h1, h2, h3, h4, h5, h6⟩ := h
  exact ⟨h1.trans (hb.mono h1.size), (hb.block _ (by omega)).trans h2, (hb.block _ (by omega)).trans h3, own_keep h4 (fun b hb' => hb.block b (h4.lt b hb').2), h5.below hb (Nat.le_refl _), fun u hu k hk => ⟨(h6 u hu k hk).1, (h6 u hu k hk).2.1, Nat.lt_of_lt_of_le (h6 u hu k hk).2.2 hb.size⟩⟩
theorem CutI.cells {w : World} {m : Rep} {hs : List Sh} {k : Nat} {rv : Value} {vs : List Value} {wr : World} (h : CutI w m hs k rv vs wr) : wr.cell? ⟨w.heap.size + 1, 6, none⟩ = some rv ∧ wr.frozen? ⟨w.heap.size + 1, 6, none⟩ = false := by
  have := h.b1
  simp [World.cell?, World.frozen?, this]
theorem newRow_no {m : Rep} {s : Sh} (h : s.fin = true ∨ sameB (rowL m s.id s.segs s.lens) s.lens = true) : newRow m s = [] := by
  unfold newRow
  rw [if_neg]
  rintro ⟨h1, h2⟩
  rcases h with h | h
  · rw [h] at h1; cases h1
  · rw [h] at h2; cases h2
theorem newRow_yes {m : Rep} {s : Sh} (h1 : s.fin = false) (h2 : sameB (rowL m s.id s.segs s.lens) s.lens = false) : newRow m s = [(s.id, rowL m s.id s.segs s.lens)] := by
  unfold newRow; rw [if_pos ⟨h1, h2⟩]
theorem CutI.skip {w : World} {m : Rep} {hs : List Sh} {k : Nat} {rv : Value} {vs : List Value} {wr : World} (h : CutI w m hs k rv vs wr) (hk : k < hs.length) (hn : newRow m hs[k] = []) : CutI w m hs (k + 1) rv vs wr := by
  have e : cutL m (hs.take (k + 1)) = cutL m (hs.take k) := by rw [cutL_take m hs k hk, hn, List.append_nil]
  obtain ⟨h1, h2, h3, h4, h5, h6⟩ := h
  exact ⟨h1, h2, h3, by rw [e]; exact h4, by rw [e]; exact h5, h6⟩
/-- One row more: appended, and stored. -/
theorem CutI.more {w : World} {m : Rep} {hs : List Sh} {k : Nat} {rv rv' sv : Value} {vs : List Value} {wr w' : World} (h : CutI w m hs k rv vs wr) (hk : k < hs.length) {id : Int} {r : List Int} (hn : newRow m hs[k] = [(id, r)]) (hsv : SlR wr sv (u64s r)) (hoff : ∀ j, sv.ownBlock = some j → rv.ownBlock ≠ some j ∧ w.heap.size + 2 ≤ j ∧ j < wr.heap.size)
    (hown : w'.ownsRow (w.heap.size + 2) 37 2 rv' ((cutL m (hs.take k)).length + 1) (vs ++ [.int .i64 id, sv])) (hg : wr.grownBy w' rv.ownBlock) (hv' : ∀ g, rv'.ownBlock = some g → rv.ownBlock = some g ∨ wr.heap.size ≤ g) :
    CutI w m hs (k + 1) rv' (vs ++ [.int .i64 id, sv]) (w'.setCell ⟨w.heap.size + 1, 6, none⟩ rv') := by
  have hsz := h.size
  obtain ⟨h1, h2, h3, h4, h5, h6⟩ := h
  have hro : ∀ j, rv.ownBlock = some j → w.heap.size + 2 ≤ j := fun j hj => (h4.lt j hj).1
  have e : cutL m (hs.take (k + 1)) = cutL m (hs.take k) ++ [(id, r)] := by rw [cutL_take m hs k hk, hn]
  have hb1 : w'.heap[w.heap.size + 1]? = some (.cells (cmdC 4 0 0 0 0 0 rv) 46) := (hg.block _ (by omega) (fun e => by have := hro _ e.symm; omega)).trans h3
  have hb0 : w'.heap[w.heap.size]? = some (.cells (cmdC 0 0 0 0 0 0 (.slice none 0 0)) 46) := (hg.block _ (by omega) (fun e => by have := hro _ e.symm; omega)).trans h2
  have hkp : Keep (fun j => j = w.heap.size + 1 ∨ rv.ownBlock = some j) wr (w'.setCell ⟨w.heap.size + 1, 6, none⟩ rv') := (Keep.grown (S := fun j => j = w.heap.size + 1 ∨ rv.ownBlock = some j) hg (fun j hj => Or.inr hj)).setCell (p := ⟨w.heap.size + 1, 6, none⟩) (Or.inl (Or.inl rfl)) _
  refine ⟨?_, ?_, ?_, ?_, ?_, ?_⟩
  · refine h1.trans (hkp.below h1.size (fun j hj => ?_))
    rcases hj with hj | hj
    · omega
    · have := hro j hj; omega
  · rw [Below.heap_setCell _ _ _ _ (by simp)]; exact hb0
  · exact heap_setCell_same w' _ 6 _ _ rv' hb1
  · rw [e, List.length_append]
    refine own_keep hown (fun b hb => Below.heap_setCell _ _ _ _ ?_)
    have := (hown.lt b hb).1
    simp; omega
  · rw [e]
    refine (h5.snoc hsv).keep hkp (fun u hu j hj hS => ?_)
    simp at hu
    rcases hu with hu | rfl | rfl
    · rcases hS with hS | hS
      · have := (h6 u hu j hj).2.1; omega
      · exact (h6 u hu j hj).1 hS
    · cases hj
    · rcases hS with hS | hS
      · have := (hoff j hj).2.1; omega
      · exact (hoff j hj).1 hS
  · intro u hu j hj
    simp at hu
    have hlt : j < wr.heap.size ∧ rv.ownBlock ≠ some j ∧ w.heap.size + 2 ≤ j := by
      rcases hu with hu | rfl | rfl
      · exact ⟨(h6 u hu j hj).2.2, (h6 u hu j hj).1, (h6 u hu j hj).2.1⟩
      · cases hj
      · exact ⟨(hoff j hj).2.2, (hoff j hj).1, (hoff j hj).2.1⟩
    refine ⟨fun hc => ?_, hlt.2.2, Nat.lt_of_lt_of_le hlt.1 hkp.size⟩
    rcases hv' j hc with h | h
    · exact hlt.2.1 h
    · omega
theorem set_seven {w : World} {b : Nat} {x0 x1 x2 x3 x4 x5 x6 : Value} {ty : TypeId} (h : w.heap[b]? = some (.cells #[x0, x1, x2, x3, x4, x5, x6] ty)) (y0 y1 y2 y3 y4 y5 y6 : Value) :
    (((((((w.setCell ⟨b, 0, none⟩ y0).setCell ⟨b, 1, none⟩ y1).setCell ⟨b, 2, none⟩ y2).setCell ⟨b, 3, none⟩ y3).setCell ⟨b, 4, none⟩ y4).setCell ⟨b, 5, none⟩ y5).setCell ⟨b, 6, none⟩ y6).heap[b]? = some (.cells #[y0, y1, y2, y3, y4, y5, y6] ty) ∧
    Keep (fun k => k = b) w (((((((w.setCell ⟨b, 0, none⟩ y0).setCell ⟨b, 1, none⟩ y1).setCell ⟨b, 2, none⟩ y2).setCell ⟨b, 3, none⟩ y3).setCell ⟨b, 4, none⟩ y4).setCell ⟨b, 5, none⟩ y5).setCell ⟨b, 6, none⟩ y6) := by
  have h0 : (w.setCell ⟨b, 0, none⟩ y0).heap[b]? = some (.cells #[y0, x1, x2, x3, x4, x5, x6] ty) := by simpa using heap_setCell_same w b 0 _ _ y0 h
  have h1 : ((w.setCell ⟨b, 0, none⟩ y0).setCell ⟨b, 1, none⟩ y1).heap[b]? = some (.cells #[y0, y1, x2, x3, x4, x5, x6] ty) := by simpa using heap_setCell_same (w.setCell ⟨b, 0, none⟩ y0) b 1 _ _ y1 h0
  have h2 : (((w.setCell ⟨b, 0, none⟩ y0).setCell ⟨b, 1, none⟩ y1).setCell ⟨b, 2, none⟩ y2).heap[b]? = some (.cells #[y0, y1, y2, x3, x4, x5, x6] ty) := by simpa using heap_setCell_same ((w.setCell ⟨b, 0, none⟩ y0).setCell ⟨b, 1, none⟩ y1) b 2 _ _ y2 h1
  have h3 : ((((w.setCell ⟨b, 0, none⟩ y0).setCell ⟨b, 1, none⟩ y1).setCell ⟨b, 2, none⟩ y2).setCell ⟨b, 3, none⟩ y3).heap[b]? = some (.cells #[y0, y1, y2, y3, x4, x5, x6] ty) := by simpa using heap_setCell_same (((w.setCell ⟨b, 0, none⟩ y0).setCell ⟨b, 1, none⟩ y1).setCell ⟨b, 2, none⟩ y2) b 3 _ _ y3 h2
  have h4 : (((((w.setCell ⟨b, 0, none⟩ y0).setCell ⟨b, 1, none⟩ y1).setCell ⟨b, 2, none⟩ y2).setCell ⟨b, 3, none⟩ y3).setCell ⟨b, 4, none⟩ y4).heap[b]? = some (.cells #[y0, y1, y2, y3, y4, x5, x6] ty) := by simpa using heap_setCell_same ((((w.setCell ⟨b, 0, none⟩ y0).setCell ⟨b, 1, none⟩ y1).setCell ⟨b, 2, none⟩ y2).setCell ⟨b, 3, none⟩ y3) b 4 _ _ y4 h3
  have h5 : ((((((w.setCell ⟨b, 0, none⟩ y0).setCell ⟨b, 1, none⟩ y1).setCell ⟨b, 2, none⟩ y2).setCell ⟨b, 3, none⟩ y3).setCell ⟨b, 4, none⟩ y4).setCell ⟨b, 5, none⟩ y5).heap[b]? = some (.cells #[y0, y1, y2, y3, y4, y5, x6] ty) := by simpa using heap_setCell_same (((((w.setCell ⟨b, 0, none⟩ y0).setCell ⟨b, 1, none⟩ y1).setCell ⟨b, 2, none⟩ y2).setCell ⟨b, 3, none⟩ y3).setCell ⟨b, 4, none⟩ y4) b 5 _ _ y5 h4
  have h6 : (((((((w.setCell ⟨b, 0, none⟩ y0).setCell ⟨b, 1, none⟩ y1).setCell ⟨b, 2, none⟩ y2).setCell ⟨b, 3, none⟩ y3).setCell ⟨b, 4, none⟩ y4).setCell ⟨b, 5, none⟩ y5).setCell ⟨b, 6, none⟩ y6).heap[b]? = some (.cells #[y0, y1, y2, y3, y4, y5, y6] ty) := by simpa using heap_setCell_same ((((((w.setCell ⟨b, 0, none⟩ y0).setCell ⟨b, 1, none⟩ y1).setCell ⟨b, 2, none⟩ y2).setCell ⟨b, 3, none⟩ y3).setCell ⟨b, 4, none⟩ y4).setCell ⟨b, 5, none⟩ y5) b 6 _ _ y6 h5
  have k0 := (Keep.refl (fun k => k = b) w).setCell (p := ⟨b, 0, none⟩) (Or.inl rfl) y0
  have k1 := k0.setCell (p := ⟨b, 1, none⟩) (Or.inl rfl) y1
  have k2 := k1.setCell (p := ⟨b, 2, none⟩) (Or.inl rfl) y2
  have k3 := k2.setCell (p := ⟨b, 3, none⟩) (Or.inl rfl) y3
  have k4 := k3.setCell (p := ⟨b, 4, none⟩) (Or.inl rfl) y4
  have k5 := k4.setCell (p := ⟨b, 5, none⟩) (Or.inl rfl) y5
  exact ⟨h6, k5.setCell (p := ⟨b, 6, none⟩) (Or.inl rfl) y6⟩
set_option maxRecDepth 100000
set_option maxHeartbeats 1600000 in
theorem cut_cmd2 {w : World} {D : Nat → Prop} {b0 bm n : Nat} {m : Rep} {v : Value} {hs : List Sh} (h : GatR w D b0 bm n m) (hv : ShL w v hs) (hok : ∀ s ∈ hs, ShOk s) (hl : hs.length ≤ 1000) :
    Calls Try.prog 21 #[.pointer (some ⟨b0, 0, none⟩), v] w fun e w' => ∃ rv, e = .returned (.tuple #[cmdV 4 0 0 0 0 0 rv, .bool (decide (0 < (cutL m hs).length))]) ∧ RowsL w' rv (cutL m hs) ∧ Below w.heap.size w w' ∧ ∀ w'', Keep (fun k => k < w.heap.size) w' w'' → RowsL w'' rv (cutL m hs) := by
  have H := Lib.hid h
  have HV := Lib.hid hv
  have HOk := Lib.hid hok
  obtain ⟨ao, c, hve, hlc, hmc, _⟩ := hv
  obtain ⟨i0, hi, hz0, hz1, hz2⟩ := info_parts Try.confRowInfo
  subst hve
  clear h hok
  go_enter Try.func21, Try.ntmps21
  have hA : CutI w m hs 0 (.slice none 0 0) [] ((w.alloc (.cells (cmdC 0 0 0 0 0 0 (.slice none 0 0)) 46)).alloc (.cells (cmdC 4 0 0 0 0 0 (.slice none 0 0)) 46)) := by
    refine ⟨((Below.refl _ _).alloc (Nat.le_refl _) _).alloc (by simp) _, ?_, ?_, by simpa [cutL] using World.ownsRow_nil _ _ _ _, by simpa [cutL] using RowsC.nil _, by simp⟩
    · rw [Below.heap_alloc _ _ _ (by simp)]; exact heap_alloc_new w _
    · have := heap_alloc_new (w.alloc (.cells (cmdC 0 0 0 0 0 0 (.slice none 0 0)) 46)) (.cells (cmdC 4 0 0 0 0 0 (.slice none 0 0)) 46)
      simpa using this
  have HA := Lib.hid hA
  clear hA
  go_wp2_with fail
  go_loopw [16] (fun i wr => ∃ (k : Nat) (rv : Value) (vs : List Value), k ≤ hs.length ∧ i = .int .i64 k ∧ CutI w m hs k rv vs wr) (fun i _ => hs.length - (intOf i).toNat)
  case atStart => exact ⟨0, _, _, by omega, rfl, HA.out⟩
  case round =>
    obtain ⟨k, rv, vs, hk, rfl, hci⟩ := hrel
    have HC := Lib.hid hci
    have hsz := hci.size
    by_cases hlt : k < hs.length
    · obtain ⟨hx1, hx2, hx3, hx4⟩ := HOk.out hs[k] (List.getElem_mem hlt)
      have hxx := (HV.out.below hci.below (Nat.le_refl _))
      obtain ⟨ao2, c2, hv2, _, _, hel⟩ := hxx
      cases hv2
      obtain ⟨a, sv, rfl, q0, q1, q2, q3, hsl⟩ := hel k hs[k] (List.getElem?_eq_getElem hlt)
      have hno : newRow m hs[k] = [] → CutI w m hs (k + 1) rv vs wr := fun h => hci.skip hlt h
      obtain ⟨s, hse⟩ : ∃ s, s = hs[k] := ⟨_, rfl⟩
      rw [← hse] at hno hx1 hx2 hx3 hx4 q0 q1 q3 hsl
      have HSe := Lib.hid hse
      have HNo := Lib.hid hno
      obtain ⟨so, sc, hsve, hsc1, hsc2⟩ := hsl.form
      simp only [List.length_map] at hsve hsc1
      subst hsve
      obtain ⟨id, segs, lens, fin⟩ := s
      simp only at hx1 hx2 hx3 hx4 q0 q1 q2 q3 hsl hsc1
      have hbA := (Below.refl wr.heap.size wr).alloc (Nat.le_refl _) (.cells #[.int .i64 id, .int .i64 segs, .slice so lens.length sc, .bool fin] 35)
      have hrow := row_any (H.out.below (hci.below.trans (hbA.mono hci.below.size)) (Nat.le_refl _)) hx1 hx2 hx3 (hsl.below hbA (Nat.le_refl _)) hx4 (fin := .bool fin)
      have HRow := Lib.hid hrow
      have HSl := Lib.hid hsl
      have HbA := Lib.hid hbA
      have hkA : (wr.alloc (.cells #[.int .i64 id, .int .i64 segs, .slice so lens.length sc, .bool fin] 35)).heap[wr.heap.size]? = some (.cells #[.int .i64 id, .int .i64 segs, .slice so lens.length sc, .bool fin] 35) := heap_alloc_new wr _
      have HkA := Lib.hid hkA
      clear hno hse hci hrow hsl hbA hkA hel hx1 hx2 hx3
      go_wp2_with fail
      refine HRow.out.mono ?_
      rintro e w4 ⟨rl, rfl, hrl, hb4, ho4⟩
      obtain ⟨ro, rc, hre, hrc1, hrc2⟩ := hrl.form
      simp only [List.length_map] at hre hrc1
      subst hre
      have hs4 := hb4.size
      have hs4 : wr.heap.size + 1 ≤ w4.heap.size := by simpa using hs4
      obtain ⟨R, hR⟩ : ∃ R, R = rowL m id segs lens := ⟨_, rfl⟩
      rw [← hR] at hrl hrc1
      have HR := Lib.hid hR
      have hb5 : Below wr.heap.size wr (w4.alloc (.cells #[.int .i64 id, .slice ro R.length rc] 37)) := (HbA.out.trans (hb4.mono (by simp))).alloc (by omega) _
      have e8 : (w4.alloc (.cells #[.int .i64 id, .slice ro R.length rc] 37)).heap[wr.heap.size]? = some (.cells #[.int .i64 id, .int .i64 segs, .slice so lens.length sc, .bool fin] 35) := by
        rw [Below.heap_alloc _ _ _ (by omega), hb4.block _ (by simp)]; exact HkA.out
      have e9 : (w4.alloc (.cells #[.int .i64 id, .slice ro R.length rc] 37)).heap[w4.heap.size]? = some (.cells #[.int .i64 id, .slice ro R.length rc] 37) := heap_alloc_new w4 _
      have x2 : (w4.alloc (.cells #[.int .i64 id, .slice ro R.length rc] 37)).cell? ⟨wr.heap.size, 2, none⟩ = some (.slice so lens.length sc) := by simp [World.cell?, e8]
      have x3 : (w4.alloc (.cells #[.int .i64 id, .slice ro R.length rc] 37)).cell? ⟨wr.heap.size, 3, none⟩ = some (.bool fin) := by simp [World.cell?, e8]
      have y0 : (w4.alloc (.cells #[.int .i64 id, .slice ro R.length rc] 37)).cell? ⟨w4.heap.size, 0, none⟩ = some (.int .i64 id) := World.news_of_block e9 0 _ rfl
      have y1 : (w4.alloc (.cells #[.int .i64 id, .slice ro R.length rc] 37)).cell? ⟨w4.heap.size, 1, none⟩ = some (.slice ro R.length rc) := World.news_of_block e9 1 _ rfl
      have C5 := Lib.hid (HC.out.step hb5)
      have hrl5 := Lib.hid (hrl.below ((Below.refl w4.heap.size w4).alloc (Nat.le_refl _) (.cells #[.int .i64 id, .slice ro R.length rc] 37)) (Nat.le_refl _))
      have hsl5 := Lib.hid (HSl.out.below hb5 (Nat.le_refl _))
      obtain ⟨z6, f6⟩ := C5.out.cells
      have Hb5 := Lib.hid hb5
      have Ho4 := Lib.hid ho4
      have hnn : newRow m ⟨id, segs, lens, fin⟩ = [] → CutI w m hs (k + 1) rv vs (w4.alloc (.cells #[.int .i64 id, .slice ro R.length rc] 37)) := fun h => (HNo.out h).step hb5
      have HNN := Lib.hid hnn
      rw [← hR]
      clear hb5 e8 e9 ho4 hb4 hrl hR hnn HRow HSl HbA HkA HNo q0 q1 q2 q3
      cases fin with
      | true =>
        go_wp2_with fail
        go_roundw
        case rel => exact ⟨k + 1, rv, vs, by omega, by go_num, HNN.out (newRow_no (Or.inl rfl))⟩
        case measure => simp [intOf]; omega
      | false =>
        cases hsame : sameB R lens with
        | true =>
          have HS := Lib.hid hsame
          go_wp2_with (go_at_call 17; ((with_reducible refine (same_any hrl5.out hsl5.out).mono ?_); rintro e w' ⟨rfl, rfl⟩))
          go_roundw
          case rel => exact ⟨k + 1, rv, vs, by omega, by go_num, HNN.out (newRow_no (Or.inr (by rw [← HR.out]; exact HS.out)))⟩
          case measure => simp [intOf]; omega
        | false =>
          have HS := Lib.hid hsame
          have hown := C5.out.own
          obtain ⟨ao3, c3, hrve, hc31, hc32⟩ : ∃ ao c, rv = .slice ao (cutL m (hs.take k)).length c ∧ (cutL m (hs.take k)).length ≤ c ∧ c ≤ 9223372036854775807 := by
            rcases hown.2 with ⟨rfl, h0⟩ | ⟨g, cap, cur, rfl, hb, hg, h1, h2, _⟩
            · exact ⟨none, 0, by rw [h0], by omega, by omega⟩
            · unfold maxLen at h2; exact ⟨_, cap, rfl, h1, by omega⟩
          have hcl := cutL_len m hs k
          have HOwn := Lib.hid hown
          obtain ⟨N, hN⟩ : ∃ N, N = (cutL m (hs.take k)).length := ⟨_, rfl⟩
          rw [← hN] at HOwn hrve hc31 hcl
          have HN := Lib.hid hN
          subst hrve
          have hsz5 := C5.out.size
          have hszr := HC.out.size
          have HCo := Lib.hid (HC.out.own.lt)
          have hNl : N ≤ 1099511627776 := by omega
          have hu1 : ∀ u ∈ (#[.int .i64 id, .slice ro R.length rc] : Array Value).toList, u.oneCell' = true := by
            intro u hu; simp at hu; rcases hu with rfl | rfl <;> rfl
          have Hu1 := Lib.hid hu1
          have hfin : ∀ g cap w7, w7.ownsRow (w.heap.size + 2) 37 2 (.slice (some ⟨g, 0, none⟩) (N + 1) cap) (N + 1) (vs ++ [.int .i64 id, .slice ro R.length rc]) →
              ((w4.alloc (.cells #[.int .i64 id, .slice ro R.length rc] 37)).alloc (.cells #[.int .i64 id, .slice ro R.length rc] 37)).grownBy w7 (Value.slice ao3 N c3).ownBlock →
              ((Value.slice ao3 N c3).ownBlock = some g ∨ g = (w4.alloc (.cells #[.int .i64 id, .slice ro R.length rc] 37)).heap.size + 1) →
              CutI w m hs (k + 1) (.slice (some ⟨g, 0, none⟩) (N + 1) cap) (vs ++ [.int .i64 id, .slice ro R.length rc]) (w7.setCell ⟨w.heap.size + 1, 6, none⟩ (.slice (some ⟨g, 0, none⟩) (N + 1) cap)) ∧
              w7.cell? ⟨w.heap.size + 1, 6, none⟩ = some (.slice ao3 N c3) ∧ w7.frozen? ⟨w.heap.size + 1, 6, none⟩ = false := by
            intro g cap w7 hown7 hg7 hor7
            have C6 := C5.out.step ((Below.refl _ _).alloc (Nat.le_refl _) (.cells #[.int .i64 id, .slice ro R.length rc] 37))
            have hsl6 := hrl5.out.below ((Below.refl _ _).alloc (Nat.le_refl _) (.cells #[.int .i64 id, .slice ro R.length rc] 37)) (Nat.le_refl _)
            have hlt4 : w4.heap.size + 1 ≤ (w4.alloc (.cells #[.int .i64 id, .slice ro R.length rc] 37)).heap.size := by simp
            have hz7 : w7.cell? ⟨w.heap.size + 1, 6, none⟩ = some (.slice ao3 N c3) ∧ w7.frozen? ⟨w.heap.size + 1, 6, none⟩ = false := by
              have := (hg7.block (w.heap.size + 1) (by simp; omega) (fun e => by have := (HOwn.out.lt _ e.symm).1; omega)).trans C6.b1
              simp [World.cell?, World.frozen?, this]
            refine ⟨?_, hz7⟩
            refine C6.more hlt (by rw [← HSe.out, newRow_yes rfl (by rw [← HR.out]; exact HS.out), ← HR.out]) hsl6 (fun j hj => ?_) (by rw [← HN.out]; exact hown7) hg7 (fun g' hg' => ?_)
            · have h1 := Ho4.out j (by rw [← HR.out]; exact hj)
              have h2 : wr.heap.size + 1 ≤ j ∧ j < w4.heap.size := by simpa using h1
              have h3 := hszr
              refine ⟨fun h => ?_, by omega, by simp; omega⟩
              have := (HOwn.out.lt _ h).2
              have h5 := (HCo.out _ h).2
              omega
            · rcases hor7 with h | h
              · exact Or.inl (by cases hg'; exact h)
              · right; cases hg'; rw [h]; simp
          have HFin := Lib.hid hfin
          clear hfin hu1
          clear hown hN
          go_wp2_with (first
            | (go_at_call 17; ((with_reducible refine (same_any hrl5.out hsl5.out).mono ?_); rintro e w' ⟨rfl, rfl⟩))
            | (at_builtin; refine wpList_appS rfl (.tmp 35) (.tmp 37) 44 rfl (w.heap.size + 2) 37 i0 _ 2 32 Try.underlying44 hi hz0 hz1 hz2 rfl (by decide) (by decide) rfl rfl (by simp) rfl HOwn.out Hu1.out hNl hsz5 ?_
               intro g cap w7 hown7 hg7 hor7
               obtain ⟨hm7, hz7a, hz7b⟩ := HFin.out g cap w7 hown7 hg7 hor7
               have HM7 := Lib.hid hm7
               clear hm7 hown7 hg7 hor7))
          go_roundw
          case rel => exact ⟨k + 1, _, _, by omega, by go_num, HM7.out⟩
          case measure => simp [intOf]; omega
    · have hkl : k = hs.length := by omega
      subst hkl
      have hown := hci.own
      obtain ⟨ao3, c3, hrve, hc31, hc32⟩ : ∃ ao c, rv = .slice ao (cutL m (hs.take hs.length)).length c ∧ (cutL m (hs.take hs.length)).length ≤ c ∧ c ≤ 9223372036854775807 := by
        rcases hown.2 with ⟨rfl, h0⟩ | ⟨g, cap, cur, rfl, hb, hg, h1, h2, _⟩
        · exact ⟨none, 0, by rw [h0], by omega, by omega⟩
        · unfold maxLen at h2; exact ⟨_, cap, rfl, h1, by omega⟩
      have hrows := RowsL.of_own hown hci.rows
      have HCi := Lib.hid hci
      rw [List.take_length] at hrve hc31 hrows
      obtain ⟨N, hN⟩ : ∃ N, N = (cutL m hs).length := ⟨_, rfl⟩
      rw [← hN] at hrve hc31
      subst hrve
      have g0 := hci.b0
      have g1 := hci.b1
      have q0 : wr.cell? ⟨w.heap.size + 1, 0, none⟩ = some (.int .i64 4) := by simp [World.cell?, g1]
      have q1 : wr.cell? ⟨w.heap.size + 1, 1, none⟩ = some (.int .u64 0) := by simp [World.cell?, g1]
      have q2 : wr.cell? ⟨w.heap.size + 1, 2, none⟩ = some (.int .u64 0) := by simp [World.cell?, g1]
      have q3 : wr.cell? ⟨w.heap.size + 1, 3, none⟩ = some (.int .i64 0) := by simp [World.cell?, g1]
      have q4 : wr.cell? ⟨w.heap.size + 1, 4, none⟩ = some (.int .i64 0) := by simp [World.cell?, g1]
      have q5 : wr.cell? ⟨w.heap.size + 1, 5, none⟩ = some (.int .u64 0) := by simp [World.cell?, g1]
      have q6 : wr.cell? ⟨w.heap.size + 1, 6, none⟩ = some (.slice ao3 N c3) := by simp [World.cell?, g1]
      have p0 : wr.cell? ⟨w.heap.size, 0, none⟩ = some (.int .i64 0) := by simp [World.cell?, g0]
      have p1 : wr.cell? ⟨w.heap.size, 1, none⟩ = some (.int .u64 0) := by simp [World.cell?, g0]
      have p2 : wr.cell? ⟨w.heap.size, 2, none⟩ = some (.int .u64 0) := by simp [World.cell?, g0]
      have p3 : wr.cell? ⟨w.heap.size, 3, none⟩ = some (.int .i64 0) := by simp [World.cell?, g0]
      have p4 : wr.cell? ⟨w.heap.size, 4, none⟩ = some (.int .i64 0) := by simp [World.cell?, g0]
      have p5 : wr.cell? ⟨w.heap.size, 5, none⟩ = some (.int .u64 0) := by simp [World.cell?, g0]
      have p6 : wr.cell? ⟨w.heap.size, 6, none⟩ = some (.slice none 0 0) := by simp [World.cell?, g0]
      have f0 : wr.frozen? ⟨w.heap.size, 0, none⟩ = false := by simp [World.frozen?, g0]
      have f1 : wr.frozen? ⟨w.heap.size, 1, none⟩ = false := by simp [World.frozen?, g0]
      have f2 : wr.frozen? ⟨w.heap.size, 2, none⟩ = false := by simp [World.frozen?, g0]
      have f3 : wr.frozen? ⟨w.heap.size, 3, none⟩ = false := by simp [World.frozen?, g0]
      have f4 : wr.frozen? ⟨w.heap.size, 4, none⟩ = false := by simp [World.frozen?, g0]
      have f5 : wr.frozen? ⟨w.heap.size, 5, none⟩ = false := by simp [World.frozen?, g0]
      have f6 : wr.frozen? ⟨w.heap.size, 6, none⟩ = false := by simp [World.frozen?, g0]
      have HRows := Lib.hid hrows
      have HN := Lib.hid hN
      have G0 := Lib.hid g0
      have hsz := hci.size
      clear hci hown hrows hN g0 g1
      go_wp2_with fail
      go_region_held3 (fun w' => w'.cell? ⟨w.heap.size + 1, 0, none⟩ = some (.int .i64 4) ∧ w'.cell? ⟨w.heap.size + 1, 1, none⟩ = some (.int .u64 0) ∧ w'.cell? ⟨w.heap.size + 1, 2, none⟩ = some (.int .u64 0) ∧ w'.cell? ⟨w.heap.size + 1, 3, none⟩ = some (.int .i64 0) ∧ w'.cell? ⟨w.heap.size + 1, 4, none⟩ = some (.int .i64 0) ∧ w'.cell? ⟨w.heap.size + 1, 5, none⟩ = some (.int .u64 0) ∧ w'.cell? ⟨w.heap.size + 1, 6, none⟩ = some (.slice ao3 N c3)) (first | go_keep | exact ⟨q0, q1, q2, q3, q4, q5, q6⟩) (fail)
      obtain ⟨hW1, hW2⟩ := set_seven G0.out (.int .i64 4) (.int .u64 0) (.int .u64 0) (.int .i64 0) (.int .i64 0) (.int .u64 0) (.slice ao3 N c3)
      generalize (((((((wr.setCell ⟨w.heap.size, 0, none⟩ (.int .i64 4)).setCell ⟨w.heap.size, 1, none⟩ (.int .u64 0)).setCell ⟨w.heap.size, 2, none⟩ (.int .u64 0)).setCell ⟨w.heap.size, 3, none⟩ (.int .i64 0)).setCell ⟨w.heap.size, 4, none⟩ (.int .i64 0)).setCell ⟨w.heap.size, 5, none⟩ (.int .u64 0)).setCell ⟨w.heap.size, 6, none⟩ (.slice ao3 N c3)) = W at *
      clear q0 q1 q2 q3 q4 q5 q6 p0 p1 p2 p3 p4 p5 p6 f0 f1 f2 f3 f4 f5 f6
      have q0 : W.cell? ⟨w.heap.size, 0, none⟩ = some (.int .i64 4) := by simp [World.cell?, hW1]
      have q1 : W.cell? ⟨w.heap.size, 1, none⟩ = some (.int .u64 0) := by simp [World.cell?, hW1]
      have q2 : W.cell? ⟨w.heap.size, 2, none⟩ = some (.int .u64 0) := by simp [World.cell?, hW1]
      have q3 : W.cell? ⟨w.heap.size, 3, none⟩ = some (.int .i64 0) := by simp [World.cell?, hW1]
      have q4 : W.cell? ⟨w.heap.size, 4, none⟩ = some (.int .i64 0) := by simp [World.cell?, hW1]
      have q5 : W.cell? ⟨w.heap.size, 5, none⟩ = some (.int .u64 0) := by simp [World.cell?, hW1]
      have q6 : W.cell? ⟨w.heap.size, 6, none⟩ = some (.slice ao3 N c3) := by simp [World.cell?, hW1]
      have hW2 := Lib.hid hW2
      clear hW1
      go_wp2
      (try simp only [Exit.inBlock, Exit.then])
      refine bodyPost_ret (v := .tuple #[cmdV 4 0 0 0 0 0 (.slice ao3 N c3), .bool (decide (0 < N))]) (by simp [results, Try.results21, go_sem, q0, q1, q2, q3, q4, q5, q6]) rfl ?_
      have hro : ∀ j, (Value.slice ao3 N c3).ownBlock = some j → w.heap.size + 2 ≤ j := fun j hj => (HCi.out.own.lt j hj).1
      have hrowsD : ∀ w'', Keep (fun k => k < w.heap.size) W.drew w'' → RowsL w'' (.slice ao3 N c3) (cutL m hs) := by
        intro w'' hkk
        have h1 := own_keep HCi.out.own (w' := W.drew) (fun j hj => hW2.out.block j (HCi.out.own.lt j hj).2 (by have := hro j hj; omega))
        have h2 := HCi.out.rows.keep hW2.out.drew (fun u hu j hj hS => by have := (HCi.out.off u hu j hj).2.1; omega)
        have h1' := own_keep h1 (w' := w'') (fun j hj => hkk.block j (h1.lt j hj).2 (by have := hro j hj; omega))
        have h2' := h2.keep hkk (fun u hu j hj hS => by have := (HCi.out.off u hu j hj).2.1; have : j < w.heap.size := hS; omega)
        have h3 := RowsL.of_own h1' h2'
        rw [List.take_length] at h3
        exact h3
      exact ⟨.slice ao3 N c3, by rw [HN.out], hrowsD _ (Keep.refl _ _), HCi.out.below.trans (hW2.out.drew.below HCi.out.below.size (fun k hk => by omega)), hrowsD⟩
theorem cut_cmd {w : World} {D : Nat → Prop} {b0 bm n : Nat} {m : Rep} {v : Value} {hs : List Sh} (h : GatR w D b0 bm n m) (hv : ShL w v hs) (hok : ∀ s ∈ hs, ShOk s) (hl : hs.length ≤ 1000) :
    Calls Try.prog 21 #[.pointer (some ⟨b0, 0, none⟩), v] w fun e w' => ∃ rv, e = .returned (.tuple #[cmdV 4 0 0 0 0 0 rv, .bool (decide (0 < (cutL m hs).length))]) ∧ RowsL w' rv (cutL m hs) ∧ Below w.heap.size w w' := by
  refine (cut_cmd2 h hv hok hl).mono ?_
  rintro e w' ⟨rv, h1, h2, h3, _⟩
  exact ⟨rv, h1, h2, h3⟩
end Go.Proofs.Ytabanackdjlcmaa
