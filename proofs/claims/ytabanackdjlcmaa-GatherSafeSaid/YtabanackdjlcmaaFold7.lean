/-
  A state as an object; nobody's shards and trims.
-/
import Derived.Test.YtabanackdjlcmaaFold6
namespace Go.Proofs.Ytabanackdjlcmaa
open Go.ChangeShapes Go.WideShapes Go.ChangeAt Go.RowKit Go.Maps
set_option maxRecDepth 100000

/-- A state at p, all of whose blocks are of D. -/
def FoldO (p : Value) (D : Nat → Prop) (w : World) (N : Nat) (F : FS) : Prop := ∃ b0 bs bt n lv, p = .pointer (some ⟨b0, 0, none⟩) ∧ FoldR w D b0 bs bt n lv F ∧ n ≤ N
theorem FoldO.step {p : Value} {D : Nat → Prop} {w w' : World} {N : Nat} {F : FS} (h : FoldO p D w N F) (hb : Below w.heap.size w w') : FoldO p D w' N F := by
  obtain ⟨b0, bs, bt, n, lv, h1, h2, h3⟩ := h
  exact ⟨b0, bs, bt, n, lv, h1, h2.below hb (Nat.le_refl _), h3⟩
theorem FoldO.ptr {p : Value} {D : Nat → Prop} {w : World} {N : Nat} {F : FS} (h : FoldO p D w N F) : ∃ b0, p = .pointer (some ⟨b0, 0, none⟩) := by
  obtain ⟨b0, bs, bt, n, lv, h1, h2, h3⟩ := h; exact ⟨b0, h1⟩
theorem fnew_o (w : World) : Calls Try.prog 24 #[] w fun e w' => ∃ p D, e = .returned p ∧ FoldO p D w' 0 emptyFS ∧ (∀ k, D k → w.heap.size ≤ k) ∧ Below w.heap.size w w' :=
  (fnew_any w).mono fun _ _ ⟨h1, h2, h3⟩ => ⟨_, _, h1, ⟨_, _, _, _, _, rfl, h2, Nat.le_refl _⟩, fun k hk => hk.1, h3⟩
theorem FoldO.len {p : Value} {D : Nat → Prop} {w : World} {N : Nat} {F : FS} (h : FoldO p D w N F) : Calls Try.prog 26 #[p] w fun e w' => e = .returned (.int .u64 F.n) ∧ w = w' := by
  obtain ⟨b0, bs, bt, n, lv, rfl, h2, h3⟩ := h; exact len_any h2
theorem FoldO.low {p : Value} {D : Nat → Prop} {w : World} {N : Nat} {F : FS} (h : FoldO p D w N F) : Calls Try.prog 28 #[p] w fun e w' => e = .returned (.int .u64 F.low) ∧ w = w' := by
  obtain ⟨b0, bs, bt, n, lv, rfl, h2, h3⟩ := h; exact low_any h2
/-- Nobody adds a shard. -/
theorem FoldO.add {p : Value} {D : Nat → Prop} {w : World} {N : Nat} {F : FS} (h : FoldO p D w N F) {shard : Int} {sg : Nat} (hs0 : 0 ≤ shard ∧ shard < 8) (hs1 : 1 ≤ sg) (hs4 : sg ≤ 4) (hN : N < 1000000) :
    Calls Try.prog 25 #[p, .agg #[.int .i64 1, .int .u64 0, .int .u64 0, .int .i64 shard, .int .i64 sg, .int .u64 0, .slice none 0 0]] w fun e w' => ∃ x, e = .returned (.int .i64 x) ∧
      ((F.sh shard = none → x = 0 ∧ FoldO p D w' (N + 1) (putS F shard ⟨shard, sg, [], false⟩)) ∧ (F.sh shard ≠ none → x = 31 ∧ FoldO p D w' N F) ∧ Keep D w w') := by
  obtain ⟨b0, bs, bt, n, lv, rfl, h2, h3⟩ := h
  have hi : IdOk shard := ⟨hs0.1, by omega⟩
  refine apply_nobody w b0 1 shard sg 0 _ ⟨none, 0, 0, rfl⟩ (fun w1 hb1 => ?_) (fun w1 hb1 => ?_)
  · exact check_add (c := ⟨1, 0, 0, shard, sg, 0, []⟩) (RowsL.nil w1) (by simp) (by unfold checkA; simp [fitsB, hasW, hasS, hasG, hasP, hasR, rowsB, hs0.1, hs0.2]) rfl (by show (1 : Int) ≤ sg; omega) (by show (sg : Int) ≤ 4; omega)
  · refine do_add w1 b0 0 0 shard sg 0 _ ⟨none, 0, 0, rfl⟩ (fun w2 hb2 => ?_)
    have hbb := hb1.trans (hb2.mono hb1.size)
    have hR := h2.below hbb (Nat.le_refl _)
    cases hs : F.sh shard with
    | none =>
      refine (add_new hR hi hs1 hs4 (by omega) hs rfl).mono ?_
      rintro e w' ⟨rfl, hr, hk⟩
      refine ⟨0, rfl, fun _ => ⟨rfl, b0, bs, bt, n + 1, lv, rfl, hr, by omega⟩, fun hh => absurd rfl hh, ?_⟩
      exact (Below.keep0 D hbb).trans (hk.mono (fun k _ e => by subst e; exact hR.ds))
    | some s =>
      refine (add_twice hR hi hs rfl).mono ?_
      rintro e w' ⟨rfl, hb3⟩
      refine ⟨31, rfl, fun hh => (by cases hh), fun _ => ⟨rfl, b0, bs, bt, n, lv, rfl, hR.below hb3 (Nat.le_refl _), h3⟩, ?_⟩
      exact (Below.keep0 D hbb).trans (Below.keep0 D hb3)
/-- Nobody gives positions up. -/
theorem FoldO.trim {p : Value} {D : Nat → Prop} {w : World} {N : Nat} {F : FS} (h : FoldO p D w N F) {pos : Int} (hp : 0 ≤ pos) :
    Calls Try.prog 25 #[p, .agg #[.int .i64 3, .int .u64 0, .int .u64 0, .int .i64 0, .int .i64 0, .int .u64 pos, .slice none 0 0]] w fun e w' => ∃ x, e = .returned (.int .i64 x) ∧
      ((pos ≤ F.n → x = 0 ∧ FoldO p D w' N (trimF F pos)) ∧ (F.n < pos → x = 36 ∧ FoldO p D w' N F) ∧ Keep D w w') := by
  obtain ⟨b0, bs, bt, n, lv, rfl, h2, h3⟩ := h
  refine apply_nobody w b0 3 0 0 pos _ ⟨none, 0, 0, rfl⟩ (fun w1 hb1 => ?_) (fun w1 hb1 => ?_)
  · exact check_ok (c := ⟨3, 0, 0, 0, 0, pos, []⟩) (RowsL.nil w1) (by simp) (by unfold checkA; simp [fitsB, hasW, hasS, hasG, hasP, hasR, rowsB]) rfl rfl
  · refine do_trim w1 b0 0 0 0 0 pos _ ⟨none, 0, 0, rfl⟩ (fun w2 hb2 => ?_)
    have hbb := hb1.trans (hb2.mono hb1.size)
    have hR := h2.below hbb (Nat.le_refl _)
    by_cases hpn : pos ≤ F.n
    · refine (trim_ok hR hp hpn rfl).mono ?_
      rintro e w' ⟨rfl, hr, hk⟩
      refine ⟨0, rfl, fun _ => ⟨rfl, b0, bs, bt, n, lv, rfl, hr, h3⟩, fun hh => by omega, ?_⟩
      exact (Below.keep0 D hbb).trans (hk.mono (fun k _ e => by subst e; exact hR.d0))
    · refine (trim_later hR (by omega) rfl).mono ?_
      rintro e w' ⟨rfl, hb3⟩
      refine ⟨36, rfl, fun hh => absurd hh hpn, fun _ => ⟨rfl, b0, bs, bt, n, lv, rfl, hR.below hb3 (Nat.le_refl _), h3⟩, ?_⟩
      exact (Below.keep0 D hbb).trans (Below.keep0 D hb3)
end Go.Proofs.Ytabanackdjlcmaa
