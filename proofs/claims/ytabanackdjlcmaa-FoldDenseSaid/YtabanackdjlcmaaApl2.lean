/-
  Package fold: Apply of whatever command, as an object's turn.
-/
import Derived.Test.YtabanackdjlcmaaApl
namespace Go.Proofs.Ytabanackdjlcmaa
open Go.ChangeShapes Go.WideShapes Go.ChangeAt Go.RowKit Go.Maps
set_option maxRecDepth 100000

theorem FoldO.nobody {p : Value} {D : Nat → Prop} {w : World} {N : Nat} {F : FS} (h : FoldO p D w N F) {c : Cm} {v : Value} (hvk : RowsD D w v c.rows) (hcb : checkB c = true) (hu : ∀ r ∈ c.rows, U64 r.2) (hpos : 0 ≤ c.pos) (hno : c.client = 0 ∧ c.seq = 0) (hFl : F.l.length ≤ 1000000000) (hN : N ≤ 900000) :
    Calls Try.prog 25 #[p, cmV c v] w fun e w' => e = .returned (.int .i64 (applyE F c)) ∧ ∃ D', FoldO p D' w' (N + 10) (applyF F c) ∧ Moved D D' w w' := by
  obtain ⟨b0, bs, bt, n, lv, rfl, h2, h3⟩ := h
  have hv0 := hvk w (Keep.refl _ _)
  have hv2 : ∃ ao n c, v = .slice ao n c := by obtain ⟨ao, c, e, _⟩ := hv0; exact ⟨ao, _, c, e⟩
  have hAE : applyE F c = doE F c := by unfold applyE; rw [if_pos hcb, if_pos hno]
  have hAF : applyF F c = doF F c := by unfold applyF; rw [if_pos hcb, if_pos hno]
  rw [hAE, hAF]
  have hrl : c.rows.length ≤ 8 := by
    have := hcb
    unfold checkB checkA at this
    simp only [Bool.and_eq_true] at this
    exact rowsB_len this.1.1.2
  have he : checkE c = 0 := by unfold checkE; rw [if_pos hcb]
  obtain ⟨op, client, seq, shard, segs, pos, rs⟩ := c
  obtain ⟨rfl, rfl⟩ : client = 0 ∧ seq = 0 := hno
  refine (apply_nobody w b0 op shard segs pos v hv2 (Q := fun x w' => x = doE F ⟨op, 0, 0, shard, segs, pos, rs⟩ ∧ ∃ D', FoldO (.pointer (some ⟨b0, 0, none⟩)) D' w' (N + 10) (doF F ⟨op, 0, 0, shard, segs, pos, rs⟩) ∧ Moved D D' w w') (fun w1 hb1 => ?_) (fun w1 hb1 => ?_)).mono ?_
  · have := check_any (c := ⟨op, 0, 0, shard, segs, pos, rs⟩) (v := v) (hv0.below hb1 (Nat.le_refl _)) (by show rs.length ≤ _; simp only at hrl; omega)
    rw [he] at this
    exact this
  · refine ((h2.below hb1 (Nat.le_refl _)).doing (c := ⟨op, 0, 0, shard, segs, pos, rs⟩) (hvk.below hb1) hcb hu hpos hFl (by omega)).mono ?_
    rintro e w' ⟨rfl, D', n', lv', hf, hn', hm⟩
    exact ⟨_, rfl, rfl, D', ⟨b0, bs, bt, n', lv', rfl, hf, by omega⟩, (Moved.of (Below.keep0 D hb1)).trans hm⟩
  · rintro e w' ⟨x, rfl, rfl, hh⟩
    exact ⟨rfl, hh⟩
/-- A command as it comes: what numbers it may bear. -/
structure CmOk (c : Cm) : Prop where
  client : Nat64 c.client
  seq : Nat64 c.seq
  pos : Nat64 c.pos
  rows : ∀ r ∈ c.rows, U64 r.2
theorem FoldO.apply {p : Value} {D : Nat → Prop} {w : World} {N : Nat} {F : FS} (h : FoldO p D w N F) {c : Cm} {v : Value} (hvk : RowsD D w v c.rows) (hl : c.rows.length ≤ 1000000) (hc : CmOk c) (hFl : F.l.length ≤ 1000000000) (hN : N ≤ 900000) :
    Calls Try.prog 25 #[p, cmV c v] w fun e w' => e = .returned (.int .i64 (applyE F c)) ∧ ∃ D', FoldO p D' w' (N + 10) (applyF F c) ∧ Moved D D' w w' := by
  cases hcb : checkB c with
  | false =>
    obtain ⟨b0, bs, bt, n, lv, rfl, h2, h3⟩ := h
    refine (apply_no w b0 (hvk w (Keep.refl _ _)) hl hcb).mono ?_
    rintro e w' ⟨rfl, hb⟩
    have hAE : applyE F c = 1 := by unfold applyE; rw [if_neg (by rw [hcb]; decide)]
    have hAF : applyF F c = F := by unfold applyF; rw [if_neg (by rw [hcb]; decide)]
    rw [hAE, hAF]
    exact ⟨rfl, D, ⟨b0, bs, bt, n, lv, rfl, h2.below hb (Nat.le_refl _), by omega⟩, Moved.of (Below.keep0 D hb)⟩
  | true =>
    by_cases hno : c.client = 0 ∧ c.seq = 0
    · exact h.nobody hvk hcb hc.rows hc.pos.1 hno hFl hN
    · exact h.tells hvk hcb hc.rows hc.pos.1 ⟨hc.client, hc.seq⟩ hno hFl hN
/-- The same of a state that the call has made; the rows are another's. -/
theorem FoldW.apply {W w0 w : World} {p : Value} {N : Nat} {F : FS} (h : FoldW W p w0 N F) (hb : Below w0.heap.size w0 w) {c : Cm} {v : Value} (hv : RowsD (fun k => k < w0.heap.size) w v c.rows) (hl : c.rows.length ≤ 1000000) (hc : CmOk c) (hFl : F.l.length ≤ 1000000000) (hN : N ≤ 900000) :
    Calls Try.prog 25 #[p, cmV c v] w fun e w' => e = .returned (.int .i64 (applyE F c)) ∧ FoldW W p w' (N + 10) (applyF F c) := by
  have hs := h.step hb
  obtain ⟨D, h1, h2, h3⟩ := h
  exact ((h1.step hb).apply (hv.sub h1.lt) hl hc hFl hN).mono fun e w' ⟨g1, D', g2, g3⟩ => ⟨g1, FoldW.moved h2 hs.below g2 g3⟩
end Go.Proofs.Ytabanackdjlcmaa
