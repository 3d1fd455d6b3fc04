/-
  What a cut comes to; its first walk.
-/
import Derived.Test.YtabanackdjlcmaaFold7
namespace Go.Proofs.Ytabanackdjlcmaa
open Go.ChangeShapes Go.WideShapes Go.ChangeAt Go.RowKit Go.Maps
set_option maxRecDepth 100000

/-- A row's new spans, up to a segment; their positions are not yet told. -/
def newSp (lens : List Int) (shard : Int) (xs : List Int) (k : Nat) : List Sp := (List.range k).flatMap fun (i : Nat) => if atI lens i < atI xs i then [⟨0, shard, i, atI lens i, atI xs i - atI lens i⟩] else []
theorem newSp_succ (lens : List Int) (shard : Int) (xs : List Int) (k : Nat) : newSp lens shard xs (k + 1) = newSp lens shard xs k ++ (if atI lens k < atI xs k then [⟨0, shard, k, atI lens k, atI xs k - atI lens k⟩] else []) := by
  simp [newSp, List.range_succ]
theorem newSp_len (lens : List Int) (shard : Int) (xs : List Int) (k : Nat) : (newSp lens shard xs k).length ≤ k := by
  induction k with
  | zero => simp [newSp]
  | succ k ih =>
    rw [newSp_succ, List.length_append]
    have : (if atI lens k < atI xs k then [(⟨0, shard, k, atI lens k, atI xs k - atI lens k⟩ : Sp)] else []).length ≤ 1 := by split <;> simp
    omega
/-- What stands against a row. -/
def rowE (F : FS) (r : Int × List Int) : Int :=
  match F.sh r.1 with
  | none => 30
  | some s => if s.fin = true then 34 else if s.segs < r.2.length ∨ leB s.lens r.2 = false then 15 else 0
def lensOf (F : FS) (id : Int) : List Int := match F.sh id with | none => [] | some s => s.lens
def rowSp (F : FS) (r : Int × List Int) : List Sp := newSp (lensOf F r.1) r.1 r.2 r.2.length
def rowsSp (F : FS) (rs : Rw) : List Sp := rs.flatMap (rowSp F)
theorem rowsSp_take (F : FS) (rs : Rw) (k : Nat) (h : k < rs.length) : rowsSp F (rs.take (k + 1)) = rowsSp F (rs.take k) ++ rowSp F rs[k] := by
  unfold rowsSp; rw [List.take_succ_eq_append_getElem h, List.flatMap_append]; simp
/-- The first thing that stands against rows; else whether there are too many positions. -/
def rowsE (F : FS) : Rw → Int
  | [] => 0
  | r :: rs => if rowE F r = 0 then rowsE F rs else rowE F r
def manyOf (l : List Sp) : List Int := l.map (·.many)
def cutE (F : FS) (rs : Rw) : Int := if rowsE F rs = 0 then sumE (F.n :: manyOf (rowsSp F rs)) else rowsE F rs
/-- Positions, told one behind the other. -/
def posSp (n : Int) : List Sp → List Sp
  | [] => []
  | s :: r => { s with pos := n } :: posSp (n + s.many) r
theorem posSp_len (n : Int) (l : List Sp) : (posSp n l).length = l.length := by
  induction l generalizing n with
  | nil => rfl
  | cons s r ih => simp [posSp, ih]
theorem posSp_app (n : Int) (a b : List Sp) : posSp n (a ++ b) = posSp n a ++ posSp (n + sumI (manyOf a)) b := by
  induction a generalizing n with
  | nil => simp [posSp, manyOf, sumI]
  | cons s r ih =>
    simp only [List.cons_append, posSp, ih]
    have e : n + sumI (manyOf (s :: r)) = n + s.many + sumI (manyOf r) := by
      simp only [manyOf, sumI, List.map_cons, List.sum_cons]; omega
    rw [e]
def lenS (F : FS) (rs : Rw) (a : Int) : Option Sh := match rs.find? (fun r => r.1 == a) with | none => F.sh a | some r => (F.sh a).map fun s => { s with lens := cutI r.2 }
/-- What a cut leaves. -/
def cutF (F : FS) (rs : Rw) : FS := { F with sh := lenS F rs, l := F.l ++ posSp F.n (rowsSp F rs), n := F.n + sumI (manyOf (rowsSp F rs)) }
theorem rowsE_at {F : FS} {rs : Rw} {k : Nat} {r : Int × List Int} (h0 : ∀ (j : Nat) (x : Int × List Int), j < k → rs[j]? = some x → rowE F x = 0) (hk : rs[k]? = some r) (hr : rowE F r ≠ 0) : rowsE F rs = rowE F r := by
  induction rs generalizing k with
  | nil => simp at hk
  | cons x xs ih =>
    unfold rowsE
    cases k with
    | zero => simp at hk; subst hk; rw [if_neg hr]
    | succ k =>
      have hx := h0 0 x (by omega) rfl
      rw [if_pos hx]
      exact ih (k := k) (fun j y hj hy => h0 (j + 1) y (by omega) (by simpa using hy)) (by simpa using hk)
theorem rowsE_none {F : FS} {rs : Rw} (h0 : ∀ (j : Nat) (x : Int × List Int), j < rs.length → rs[j]? = some x → rowE F x = 0) : rowsE F rs = 0 := by
  induction rs with
  | nil => rfl
  | cons x xs ih =>
    unfold rowsE
    rw [if_pos (h0 0 x (by simp) rfl)]
    exact ih (fun j y hj hy => h0 (j + 1) y (by simp; omega) (by simpa using hy))
theorem cutE_at {F : FS} {rs : Rw} {k : Nat} {r : Int × List Int} (h0 : ∀ (j : Nat) (x : Int × List Int), j < k → rs[j]? = some x → rowE F x = 0) (hk : rs[k]? = some r) (hr : rowE F r ≠ 0) : cutE F rs = rowE F r := by
  unfold cutE
  rw [rowsE_at h0 hk hr, if_neg hr]
theorem rows_row {rs : Rw} (h : rowsB rs = true) {k : Nat} {r : Int × List Int} (hk : rs[k]? = some r) : 0 ≤ r.1 ∧ r.1 < 8 ∧ r.2.length ≤ 4 ∧ r.2.length ≤ (cutI r.2).length := by
  unfold rowsB at h
  rw [List.all_eq_true] at h
  have hl := (List.getElem?_eq_some_iff.1 hk).1
  have := h k (by simpa using hl)
  unfold rowOkAt at this
  rw [hk] at this
  simp only [Bool.and_eq_true, decide_eq_true_eq] at this
  exact ⟨this.1.1.1.1, this.1.1.1.2, this.1.2, this.2⟩
end Go.Proofs.Ytabanackdjlcmaa
