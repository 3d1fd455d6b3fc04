/-
  Contracts of package conf: of, fits.
-/
import Derived.Test.YtabanackdjlcmaaLib6
import Derived.Test.YtabanackdjlcmaaPlain2
namespace Go.Proofs.Ytabanackdjlcmaa
open Go.ChangeShapes Go.WideShapes Go.ChangeAt Go.RowKit Go.Maps
set_option maxRecDepth 100000

/-- Which fields an op has: who, shard, segments, position, rows. -/
def hasW (op : Int) : Bool := op == 1 || op == 2 || op == 3
def hasS (op : Int) : Bool := op == 1 || op == 2
def hasG (op : Int) : Bool := op == 1
def hasP (op : Int) : Bool := op == 3
def hasR (op : Int) : Bool := op == 2 || op == 4
abbrev hasV (op : Int) : Value := .agg #[.bool (hasW op), .bool (hasS op), .bool (hasG op), .bool (hasP op), .bool (hasR op)]

theorem set_five {w : World} {b : Nat} {x0 x1 x2 x3 x4 : Value} {ty : TypeId} (h : w.heap[b]? = some (.cells #[x0, x1, x2, x3, x4] ty)) (y0 y1 y2 y3 y4 : Value) :
    (((((w.setCell ⟨b, 0, none⟩ y0).setCell ⟨b, 1, none⟩ y1).setCell ⟨b, 2, none⟩ y2).setCell ⟨b, 3, none⟩ y3).setCell ⟨b, 4, none⟩ y4).heap[b]? = some (.cells #[y0, y1, y2, y3, y4] ty) := by
  have h0 : (w.setCell ⟨b, 0, none⟩ y0).heap[b]? = some (.cells #[y0, x1, x2, x3, x4] ty) := by simpa using heap_setCell_same w b 0 _ _ y0 h
  have h1 : ((w.setCell ⟨b, 0, none⟩ y0).setCell ⟨b, 1, none⟩ y1).heap[b]? = some (.cells #[y0, y1, x2, x3, x4] ty) := by simpa using heap_setCell_same _ b 1 _ _ y1 h0
  have h2 : (((w.setCell ⟨b, 0, none⟩ y0).setCell ⟨b, 1, none⟩ y1).setCell ⟨b, 2, none⟩ y2).heap[b]? = some (.cells #[y0, y1, y2, x3, x4] ty) := by simpa using heap_setCell_same _ b 2 _ _ y2 h1
  have h3 : ((((w.setCell ⟨b, 0, none⟩ y0).setCell ⟨b, 1, none⟩ y1).setCell ⟨b, 2, none⟩ y2).setCell ⟨b, 3, none⟩ y3).heap[b]? = some (.cells #[y0, y1, y2, y3, x4] ty) := by simpa using heap_setCell_same _ b 3 _ _ y3 h2
  simpa using heap_setCell_same _ b 4 _ _ y4 h3

set_option maxHeartbeats 1000000 in
theorem of_any (op : Int) (w : World) : Calls Try.prog 42 #[.int .i64 op] w fun e w' => e = .returned (hasV op) ∧ Below w.heap.size w w' := by
  have hc : ((op == 1) = true ∧ op = 1) ∨ ((op == 1) = false ∧ (op == 2) = true ∧ op = 2) ∨ ((op == 1) = false ∧ (op == 2) = false ∧ (op == 3) = true ∧ op = 3) ∨ ((op == 1) = false ∧ (op == 2) = false ∧ (op == 3) = false ∧ (op == 4) = true ∧ op = 4) ∨ ((op == 1) = false ∧ (op == 2) = false ∧ (op == 3) = false ∧ (op == 4) = false) := by
    simp only [beq_iff_eq, beq_eq_false_iff_ne]; omega
  rcases hc with ⟨h1, h⟩ | ⟨h1, h2, h⟩ | ⟨h1, h2, h3, h⟩ | ⟨h1, h2, h3, h4, h⟩ | ⟨h1, h2, h3, h4⟩
  · subst h
    go_enter Try.func42, Try.ntmps42
    go_wp2
    go_returns
    exact ⟨rfl, ((Below.refl _ _).alloc (Nat.le_refl _) _).alloc (by simp) _⟩
  · subst h
    go_enter Try.func42, Try.ntmps42
    go_wp2
    go_returns
    exact ⟨rfl, ((Below.refl _ _).alloc (Nat.le_refl _) _).alloc (by simp) _⟩
  · subst h
    go_enter Try.func42, Try.ntmps42
    go_wp2
    go_returns
    exact ⟨rfl, ((Below.refl _ _).alloc (Nat.le_refl _) _).alloc (by simp) _⟩
  · subst h
    go_enter Try.func42, Try.ntmps42
    go_wp2
    go_returns
    exact ⟨rfl, ((Below.refl _ _).alloc (Nat.le_refl _) _).alloc (by simp) _⟩
  · have e : hasV op = .agg #[.bool false, .bool false, .bool false, .bool false, .bool false] := by
      simp [hasV, hasW, hasS, hasG, hasP, hasR, h1, h2, h3, h4]
    have HE := Lib.hid e
    clear e
    go_enter Try.func42, Try.ntmps42
    go_wp2
    go_returns
    exact ⟨by rw [HE.out], ((Below.refl _ _).alloc (Nat.le_refl _) _).alloc (by simp) _⟩

/-- Is each field nothing that an op hasn't? -/
def fitsB (w s g p r : Bool) (client seq shard segs pos : Int) (n : Nat) : Bool :=
  (w || (client == 0 && seq == 0)) && (s || shard == 0) && (g || segs == 0) && (p || pos == 0) && (r || n == 0)

set_option maxHeartbeats 4000000 in
theorem fits_any (w s g p r : Bool) (op client seq shard segs pos : Int) {v : Value} {rs : Rw} {w0 : World} (hv : RowsL w0 v rs) :
    Calls Try.prog 41 #[.agg #[.int .i64 op, .int .u64 client, .int .u64 seq, .int .i64 shard, .int .i64 segs, .int .u64 pos, v], .agg #[.bool w, .bool s, .bool g, .bool p, .bool r]] w0
      fun e w' => e = .returned (.bool (fitsB w s g p r client seq shard segs pos rs.length)) ∧ Below w0.heap.size w0 w' := by
  obtain ⟨ao, c, rfl, hc1, hc2, hxx⟩ := hv
  clear hxx
  generalize rs.length = n at *
  obtain ⟨R, hR⟩ : ∃ R, R = fitsB w s g p r client seq shard segs pos n := ⟨_, rfl⟩
  rw [← hR]
  unfold fitsB at hR
  have e0 : (n == 0) = decide (¬ (0 < (n : Int))) := by
    by_cases h : n = 0
    · rw [h]; rfl
    · have : (n == 0) = false := by simpa using h
      rw [this]; symm; apply decide_eq_false; omega
  rw [e0] at hR
  have HR := Lib.hid hR
  clear hR e0
  go_enter Try.func41, Try.ntmps41
  go_wp2
  all_goals
    go_ret
    refine ⟨?_, ((Below.refl _ _).alloc (Nat.le_refl _) _).alloc (by simp) _⟩
    rw [HR.out]
    clear HR
    first | (simp_all; done) | (simp_all; omega)
end Go.Proofs.Ytabanackdjlcmaa
