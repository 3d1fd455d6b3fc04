/-
  Contracts of package fold: New, Len, Low, live.
-/
import Derived.Test.YtabanackdjlcmaaLib7
import Derived.Test.YtabanackdjlcmaaSumV
import Derived.Test.YtabanackdjlcmaaFrame
import Derived.WideKeyPair
import Derived.DeepKeys4
namespace Go.Proofs.Ytabanackdjlcmaa
open Go.ChangeShapes Go.WideShapes Go.ChangeAt Go.RowKit Go.Maps
set_option maxRecDepth 100000

/-- A span of positions. -/
structure Sp where
  pos : Int
  shard : Int
  seg : Int
  off : Int
  many : Int
/-- What commands came to. -/
structure FS where
  sh : Int → Option Sh
  l : List Sp
  n : Int
  low : Int
  told : Int → Int → Option Int
def spC (l : List Sp) : List Value := l.flatMap fun s => [.int .u64 s.pos, .int .i64 s.shard, .int .i64 s.seg, .int .u64 s.off, .int .u64 s.many]
theorem spC_len (l : List Sp) : (spC l).length = l.length * 5 := by
  induction l with
  | nil => rfl
  | cons s r ih =>
    have : spC (s :: r) = [.int .u64 s.pos, .int .i64 s.shard, .int .i64 s.seg, .int .u64 s.off, .int .u64 s.many] ++ spC r := rfl
    rw [this, List.length_append, ih]; simp; omega
theorem spC_app (a b : List Sp) : spC (a ++ b) = spC a ++ spC b := by simp [spC]

def IdOk (a : Int) : Prop := 0 ≤ a ∧ a < 8
theorem idKeyed : Keyed Try.prog 3 := int_keyed Try.underlying3
theorem id_key {a : Int} (h : IdOk a) : keyOf Try.prog 3 (.int .i64 a) = some (.int .i64 a) :=
  keyOf_int_mk Try.underlying3 (by obtain ⟨h1, h2⟩ := h; simp [Lit.wf, IntKind.min, IntKind.max, IntKind.signed, IntKind.bits]; omega)
theorem whoKeyed : Keyed Try.prog 91 := Keyed.of_law (deep_law_laid Try.laidOut (m := 5) (by decide) (of_decide_eq_true (by kernel_rfl)) (by kernel_rfl) (by kernel_rfl))
def wk (a b : Int) : Lit := .string (keyBytes [.int .u64 a, .int .u64 b])
theorem zeroShard (w : World) : (zeroValue 35).run Try.prog w = .ok (.agg #[.int .i64 0, .int .i64 0, .slice none 0 0, .bool false]) w := by kernel_rfl
theorem zeroErrno (w : World) : (zeroValue 28).run Try.prog w = .ok (.int .i64 0) w := by kernel_rfl

/-- How a shard lies in the map. -/
def ShV (w : World) (D : Nat → Prop) (b0 bs bt : Nat) (lv : Value) (fv : Option Value) : Option Sh → Prop
  | none => fv = none
  | some s => ∃ sv, fv = some (.agg #[.int .i64 s.id, .int .i64 s.segs, sv, .bool s.fin]) ∧ SlR w sv (u64s s.lens) ∧ ∀ k, sv.ownBlock = some k → D k ∧ k ≠ b0 ∧ k ≠ bs ∧ k ≠ bt ∧ lv.ownBlock ≠ some k
/-- A state, all of whose blocks are of D. -/
structure FoldR (w : World) (D : Nat → Prop) (b0 bs bt N : Nat) (lv : Value) (S : FS) : Prop where
  cells : w.heap[b0]? = some (.cells #[.map (some bs), lv, .int .u64 S.n, .int .u64 S.low, .map (some bt)] 89 (0, 0))
  lt : ∀ k, D k → k < w.heap.size
  d0 : D b0
  ds : D bs
  dt : D bt
  dl : ∀ k, lv.ownBlock = some k → D k ∧ k ≠ b0 ∧ k ≠ bs ∧ k ≠ bt
  ne : bs ≠ b0 ∧ bt ≠ b0 ∧ bs ≠ bt
  own : w.ownsRow 0 60 5 lv S.l.length (spC S.l)
  sh : ∃ f, MapR w Try.prog 3 bs N f ∧ (∀ a : Int, IdOk a → ShV w D b0 bs bt lv (f (.int .i64 a)) (S.sh a)) ∧ ∀ kl, (f kl).isSome = true → ∃ a : Int, IdOk a ∧ kl = .int .i64 a
  told : ∃ f, MapR w Try.prog 91 bt N f ∧ ∀ a b : Int, f (wk a b) = (S.told a b).map (Value.int .i64)
  num : 0 ≤ S.n ∧ S.n ≤ 18446744073709551615 ∧ 0 ≤ S.low ∧ S.low ≤ S.n
  small : ∀ a s, S.sh a = some s → s.lens.length ≤ 4 ∧ 1 ≤ s.segs ∧ s.segs ≤ 4 ∧ s.id = a ∧ U64 s.lens
def emptyFS : FS := ⟨fun _ => none, [], 0, 0, fun _ _ => none⟩

theorem ShV.keep {S D D' : Nat → Prop} {w w' : World} {b0 bs bt : Nat} {lv : Value} {fv : Option Value} {mx : Option Sh} (hk : Keep S w w') (hS : ∀ k, S k → D k → k = b0 ∨ k = bs ∨ k = bt ∨ lv.ownBlock = some k) (hD : ∀ k, D k → D' k) (h : ShV w D b0 bs bt lv fv mx) : ShV w' D' b0 bs bt lv fv mx := by
  cases mx with
  | none => exact h
  | some s =>
    obtain ⟨sv, h1, h2, h3⟩ := h
    refine ⟨sv, h1, h2.keep hk (fun k hk' hs => ?_), fun k hk => ⟨hD k (h3 k hk).1, (h3 k hk).2⟩⟩
    obtain ⟨g1, g0, g2, g3, g4⟩ := h3 k hk'
    rcases hS k hs g1 with h | h | h | h
    · exact g0 h
    · exact g2 h
    · exact g3 h
    · exact g4 h
theorem FoldR.keep {S D : Nat → Prop} {w w' : World} {b0 bs bt N : Nat} {lv : Value} {F : FS} (h : FoldR w D b0 bs bt N lv F) (hk : Keep S w w') (hS : ∀ k, S k → ¬ D k) : FoldR w' D b0 bs bt N lv F := by
  obtain ⟨h1, h2, h3, h4, h5, h6, h7, h8, ⟨f, hf, hv, hvx⟩, ⟨g, hg, hgv⟩, h11, h12⟩ := h
  refine ⟨(hk.block b0 (h2 _ h3) (fun hs => hS _ hs h3)).trans h1, fun k hd => Nat.lt_of_lt_of_le (h2 k hd) hk.size, h3, h4, h5, h6, h7, own_keep h8 (fun b hb => hk.block b (h2 b (h6 b hb).1) (fun hs => hS b hs (h6 b hb).1)), ⟨f, hf.keep hk (fun hs => hS _ hs h4), fun a ha => (hv a ha).keep hk (fun k hs hd => absurd hd (hS k hs)) (fun _ h => h), hvx⟩, ⟨g, hg.keep hk (fun hs => hS _ hs h5), hgv⟩, h11, h12⟩
theorem FoldR.below {B : Nat} {D : Nat → Prop} {w w' : World} {b0 bs bt N : Nat} {lv : Value} {F : FS} (h : FoldR w D b0 bs bt N lv F) (hb : Below B w w') (hB : w.heap.size ≤ B) : FoldR w' D b0 bs bt N lv F := by
  refine h.keep (S := fun k => w.heap.size ≤ k) (Below.keep hb (fun k hk h => by omega)) (fun k hk hd => ?_)
  have := h.lt k hd
  omega
theorem FoldR.cell {D : Nat → Prop} {w : World} {b0 bs bt N : Nat} {lv : Value} {F : FS} (h : FoldR w D b0 bs bt N lv F) : w.cell? ⟨b0, 0, none⟩ = some (.map (some bs)) ∧ w.cell? ⟨b0, 1, none⟩ = some lv ∧ w.cell? ⟨b0, 2, none⟩ = some (.int .u64 F.n) ∧ w.cell? ⟨b0, 3, none⟩ = some (.int .u64 F.low) ∧ w.cell? ⟨b0, 4, none⟩ = some (.map (some bt)) ∧
    w.frozen? ⟨b0, 1, none⟩ = false ∧ w.frozen? ⟨b0, 2, none⟩ = false ∧ w.frozen? ⟨b0, 3, none⟩ = false := by
  have := h.cells
  simp [World.cell?, World.frozen?, this]

theorem fnew_any (w : World) : Calls Try.prog 24 #[] w fun e w' => e = .returned (.pointer (some ⟨w.heap.size + 2, 0, none⟩)) ∧ FoldR w' (fun k => w.heap.size ≤ k ∧ k < w.heap.size + 3) (w.heap.size + 2) w.heap.size (w.heap.size + 1) 0 (.slice none 0 0) emptyFS ∧ Below w.heap.size w w' := by
  have hmm := @run_makeMap Try.prog
  go_enter Try.func24, Try.ntmps24
  go_wp2
  go_ret
  have e1 : ((w.alloc (.map #[] 0)).heap.size) = w.heap.size + 1 := by simp
  have e2 : (((w.alloc (.map #[] 0)).alloc (.map #[] 0)).heap.size) = w.heap.size + 2 := by simp
  refine ⟨by simp, ⟨?_, fun k hk => by simp; omega, by constructor <;> omega, by constructor <;> omega, by constructor <;> omega, (fun k hk => by cases hk), ⟨by omega, by omega, by omega⟩, World.ownsRow_nil _ _ _ _, ⟨fun _ => none, ?_, (fun a _ => rfl), by intro kl h; cases h⟩, ⟨fun _ => none, ?_, fun a b => rfl⟩, by simp [emptyFS], by simp [emptyFS]⟩, (((Below.refl _ _).alloc (Nat.le_refl _) _).alloc (by simp) _).alloc (by simp; omega) _⟩
  · have := heap_alloc_new ((w.alloc (.map #[] 0)).alloc (.map #[] 0)) (.cells #[.map (some w.heap.size), .slice none 0 0, .int .u64 0, .int .u64 0, .map (some (w.heap.size + 1))] 89 (0, 0))
    rw [e2] at this
    exact this
  · exact ((MapR.made w Try.prog 3).same (Below.heap_alloc _ _ _ (by simp))).same (Below.heap_alloc _ _ _ (by simp; omega))
  · have := (MapR.made (w.alloc (.map #[] 0)) Try.prog 91)
    rw [e1] at this
    exact this.same (Below.heap_alloc _ _ _ (by simp))
theorem len_any {D : Nat → Prop} {w : World} {b0 bs bt N : Nat} {lv : Value} {F : FS} (h : FoldR w D b0 bs bt N lv F) : Calls Try.prog 26 #[.pointer (some ⟨b0, 0, none⟩)] w fun e w' => e = .returned (.int .u64 F.n) ∧ w = w' := by
  obtain ⟨c0, c1, c2, c3, c4, _⟩ := h.cell
  clear h
  go_enter Try.func26, Try.ntmps26
  go_wp2
  go_ret
  exact ⟨rfl, rfl⟩
theorem low_any {D : Nat → Prop} {w : World} {b0 bs bt N : Nat} {lv : Value} {F : FS} (h : FoldR w D b0 bs bt N lv F) : Calls Try.prog 28 #[.pointer (some ⟨b0, 0, none⟩)] w fun e w' => e = .returned (.int .u64 F.low) ∧ w = w' := by
  obtain ⟨c0, c1, c2, c3, c4, _⟩ := h.cell
  clear h
  go_enter Try.func28, Try.ntmps28
  go_wp2
  go_ret
  exact ⟨rfl, rfl⟩
end Go.Proofs.Ytabanackdjlcmaa
