/-
  Package leader: how one lies in memory; New, Stop, Leads, Ballot, is, majority.
-/
import Derived.Test.YtjdjfhioobhcjaaPop
import Derived.Test.YtjdjfhioobhcjaaSepB
namespace Go.Proofs.Ytjdjfhioobhcjaa
open Go.ChangeShapes Go.WideShapes Go.ChangeAt Go.RowKit Go.Maps
set_option maxRecDepth 100000

theorem zeroOpen (w : World) : (zeroValue 127).run Try.prog w = .ok (.agg #[.int .u64 0, .int .u64 0, .slice none 0 0, .int .u32 0]) w := by kernel_rfl
/-- What one proposes. -/
structure LS where
  many : Int
  stage : Int
  ballot : Int
  first : Int
  next : Int
  prom : Nat → Bool
  kn : Int → Option Vt
  op : Int → Option (Vt × (Nat → Bool))
/-- How a known vote lies in its map. -/
def LvV (w : World) (D R : Nat → Prop) (fv : Option Value) : Option Vt → Prop
  | none => fv = none
  | some v => ∃ sv, fv = some (.agg #[.int .u64 v.slot, .int .u64 v.ballot, sv]) ∧ SlR w sv (u8s v.val) ∧ ∀ k, sv.ownBlock = some k → D k ∧ ¬ R k
/-- How a proposal lies in its map. -/
def OpV (w : World) (D R : Nat → Prop) (fv : Option Value) : Option (Vt × (Nat → Bool)) → Prop
  | none => fv = none
  | some (v, f) => ∃ sv, fv = some (.agg #[.int .u64 v.slot, .int .u64 v.ballot, sv, .int .u32 (msk 32 f)]) ∧ SlR w sv (u8s v.val) ∧ ∀ k, sv.ownBlock = some k → D k ∧ ¬ R k
def LtOk (a : Int) (v : Vt) : Prop := v.slot = a ∧ U1 v.ballot ∧ U8 v.val ∧ v.val.length ≤ 1000000
/-- A map of known votes; nil is empty. -/
structure KMap (w : World) (D R : Nat → Prop) (mo : Option Nat) (N : Nat) (l : Int → Option Vt) : Prop where
  some_ : ∀ b, mo = some b → ∃ f, MapR w Try.prog 29 b N f ∧ (∀ a : Int, U1 a → LvV w D R (f (.int .u64 a)) (l a)) ∧ ∀ kl, (f kl).isSome = true → ∃ a : Int, U1 a ∧ kl = .int .u64 a
  none_ : mo = none → ∀ a, l a = none
  small : ∀ a v, l a = some v → U1 a ∧ LtOk a v
structure OMap (w : World) (D R : Nat → Prop) (mo : Option Nat) (N : Nat) (l : Int → Option (Vt × (Nat → Bool))) : Prop where
  some_ : ∀ b, mo = some b → ∃ f, MapR w Try.prog 29 b N f ∧ (∀ a : Int, U1 a → OpV w D R (f (.int .u64 a)) (l a)) ∧ ∀ kl, (f kl).isSome = true → ∃ a : Int, U1 a ∧ kl = .int .u64 a
  none_ : mo = none → ∀ a, l a = none
  small : ∀ a v, l a = some v → U1 a ∧ LtOk a v.1
theorem LvV.keep {S D D' R R' : Nat → Prop} {w w' : World} {fv : Option Value} {mx : Option Vt} (hk : Keep S w w') (hS : ∀ k, S k → D k → R k) (hD : ∀ k, D k → D' k) (hR : ∀ k, D k → R' k → R k) (h : LvV w D R fv mx) : LvV w' D' R' fv mx := by
  cases mx with
  | none => exact h
  | some s =>
    obtain ⟨sv, h1, h2, h3⟩ := h
    exact ⟨sv, h1, h2.keep hk (fun k hk' hs => (h3 k hk').2 (hS k hs (h3 k hk').1)), fun k hk => ⟨hD k (h3 k hk).1, fun hr => (h3 k hk).2 (hR k (h3 k hk).1 hr)⟩⟩
theorem OpV.keep {S D D' R R' : Nat → Prop} {w w' : World} {fv : Option Value} {mx : Option (Vt × (Nat → Bool))} (hk : Keep S w w') (hS : ∀ k, S k → D k → R k) (hD : ∀ k, D k → D' k) (hR : ∀ k, D k → R' k → R k) (h : OpV w D R fv mx) : OpV w' D' R' fv mx := by
  cases mx with
  | none => exact h
  | some s =>
    obtain ⟨v, f⟩ := s
    obtain ⟨sv, h1, h2, h3⟩ := h
    exact ⟨sv, h1, h2.keep hk (fun k hk' hs => (h3 k hk').2 (hS k hs (h3 k hk').1)), fun k hk => ⟨hD k (h3 k hk).1, fun hr => (h3 k hk).2 (hR k (h3 k hk).1 hr)⟩⟩
/-- Behind writes to none of its blocks, or to reserved ones that are not its own. -/
theorem KMap.keep {S D D' R R' : Nat → Prop} {w w' : World} {mo : Option Nat} {N M : Nat} {l : Int → Option Vt} (h : KMap w D R mo N l) (hk : Keep S w w') (hS : ∀ k, S k → D k → R k) (hm : ∀ b, mo = some b → ¬ S b) (hD : ∀ k, D k → D' k) (hR : ∀ k, D k → R' k → R k) (hM : N ≤ M) : KMap w' D' R' mo M l :=
  ⟨fun b e => by obtain ⟨f, h1, h2, h3⟩ := h.some_ b e; exact ⟨f, (h1.keep hk (hm b e)).mono hM, fun a ha => (h2 a ha).keep hk hS hD hR, h3⟩, h.none_, h.small⟩
theorem OMap.keep {S D D' R R' : Nat → Prop} {w w' : World} {mo : Option Nat} {N M : Nat} {l : Int → Option (Vt × (Nat → Bool))} (h : OMap w D R mo N l) (hk : Keep S w w') (hS : ∀ k, S k → D k → R k) (hm : ∀ b, mo = some b → ¬ S b) (hD : ∀ k, D k → D' k) (hR : ∀ k, D k → R' k → R k) (hM : N ≤ M) : OMap w' D' R' mo M l :=
  ⟨fun b e => by obtain ⟨f, h1, h2, h3⟩ := h.some_ b e; exact ⟨f, (h1.keep hk (hm b e)).mono hM, fun a ha => (h2 a ha).keep hk hS hD hR, h3⟩, h.none_, h.small⟩
/-- The blocks that are no vote's. -/
def LR (b0 : Nat) (ko lo : Option Nat) (k : Nat) : Prop := k = b0 ∨ ko = some k ∨ lo = some k
structure LeaR (w : World) (D : Nat → Prop) (b0 : Nat) (ko lo : Option Nat) (N : Nat) (A : LS) : Prop where
  cells : w.heap[b0]? = some (.cells #[.int .i64 A.many, .int .i64 A.stage, .int .u64 A.ballot, .int .u64 A.first, .int .u64 A.next, .int .u32 (msk 32 A.prom), .map ko, .map lo] 116 (0, 0))
  lt : ∀ k, D k → k < w.heap.size
  dr : ∀ k, LR b0 ko lo k → D k
  ne : (∀ b, ko = some b → b ≠ b0) ∧ (∀ b, lo = some b → b ≠ b0) ∧ ∀ b, ko = some b → lo ≠ some b
  kn : KMap w D (LR b0 ko lo) ko N A.kn
  op : OMap w D (LR b0 ko lo) lo N A.op
  many : 1 ≤ A.many ∧ A.many ≤ 32
  num : U1 A.ballot ∧ U1 A.first ∧ U1 A.next
  live : A.stage ≠ 0 → ko.isSome = true ∧ lo.isSome = true
theorem LeaR.keep {S D : Nat → Prop} {w w' : World} {b0 N : Nat} {ko lo : Option Nat} {A : LS} (h : LeaR w D b0 ko lo N A) (hk : Keep S w w') (hS : ∀ k, S k → ¬ D k) : LeaR w' D b0 ko lo N A :=
  ⟨(hk.block b0 (h.lt _ (h.dr _ (Or.inl rfl))) (fun hs => hS _ hs (h.dr _ (Or.inl rfl)))).trans h.cells, fun k hd => Nat.lt_of_lt_of_le (h.lt k hd) hk.size, h.dr, h.ne,
   h.kn.keep hk (fun k hs hd => absurd hd (hS k hs)) (fun b e hs => hS b hs (h.dr b (Or.inr (Or.inl e)))) (fun _ h => h) (fun _ _ h => h) (Nat.le_refl _),
   h.op.keep hk (fun k hs hd => absurd hd (hS k hs)) (fun b e hs => hS b hs (h.dr b (Or.inr (Or.inr e)))) (fun _ h => h) (fun _ _ h => h) (Nat.le_refl _), h.many, h.num, h.live⟩
theorem LeaR.below {B : Nat} {D : Nat → Prop} {w w' : World} {b0 N : Nat} {ko lo : Option Nat} {A : LS} (h : LeaR w D b0 ko lo N A) (hb : Below B w w') (hB : w.heap.size ≤ B) : LeaR w' D b0 ko lo N A := by
  refine h.keep (S := fun k => w.heap.size ≤ k) (Below.keep hb (fun k hk h => by omega)) (fun k hk hd => ?_)
  have := h.lt k hd
  omega
theorem LeaR.cell {D : Nat → Prop} {w : World} {b0 N : Nat} {ko lo : Option Nat} {A : LS} (h : LeaR w D b0 ko lo N A) : (w.cell? ⟨b0, 0, none⟩ = some (.int .i64 A.many) ∧ w.cell? ⟨b0, 1, none⟩ = some (.int .i64 A.stage) ∧ w.cell? ⟨b0, 2, none⟩ = some (.int .u64 A.ballot) ∧
    w.cell? ⟨b0, 3, none⟩ = some (.int .u64 A.first) ∧ w.cell? ⟨b0, 4, none⟩ = some (.int .u64 A.next) ∧ w.cell? ⟨b0, 5, none⟩ = some (.int .u32 (msk 32 A.prom)) ∧ w.cell? ⟨b0, 6, none⟩ = some (.map ko) ∧ w.cell? ⟨b0, 7, none⟩ = some (.map lo)) ∧ ∀ j, w.frozen? ⟨b0, j, none⟩ = false := by
  have := h.cells
  simp [World.cell?, World.frozen?, this]
/-- Some numbers of it turn; its maps stay. -/
theorem LeaR.turn {D : Nat → Prop} {w w' : World} {b0 N : Nat} {ko lo : Option Nat} {A A' : LS} (h : LeaR w D b0 ko lo N A) (hk : Keep (fun k => k = b0) w w') (hc : w'.heap[b0]? = some (.cells #[.int .i64 A'.many, .int .i64 A'.stage, .int .u64 A'.ballot, .int .u64 A'.first, .int .u64 A'.next, .int .u32 (msk 32 A'.prom), .map ko, .map lo] 116 (0, 0)))
    (hkn : A'.kn = A.kn) (hop : A'.op = A.op) (hm : 1 ≤ A'.many ∧ A'.many ≤ 32) (hn : U1 A'.ballot ∧ U1 A'.first ∧ U1 A'.next) (hl : A'.stage ≠ 0 → A.stage ≠ 0) : LeaR w' D b0 ko lo N A' :=
  ⟨hc, fun k hd => Nat.lt_of_lt_of_le (h.lt k hd) hk.size, h.dr, h.ne,
   by rw [hkn]; exact h.kn.keep hk (fun k hs _ => Or.inl hs) (fun b e hs => h.ne.1 b e hs) (fun _ h => h) (fun _ _ h => h) (Nat.le_refl _),
   by rw [hop]; exact h.op.keep hk (fun k hs _ => Or.inl hs) (fun b e hs => h.ne.2.1 b e hs) (fun _ h => h) (fun _ _ h => h) (Nat.le_refl _), hm, hn, fun hs => h.live (hl hs)⟩
def newLS (many : Int) : LS := ⟨many, 0, 0, 0, 0, fun _ => false, fun _ => none, fun _ => none⟩
theorem msk_none (n : Nat) : msk n (fun _ => false) = 0 := by
  induction n with
  | zero => rfl
  | succ n ih => unfold msk; rw [ih]; rfl
theorem lnew_ok {many : Int} (h : 1 ≤ many ∧ many ≤ 32) (w : World) : Calls Try.prog 29 #[.int .i64 many] w fun e w' => e = .returned (.tuple #[.pointer (some ⟨w.heap.size, 0, none⟩), .int .i64 0]) ∧ LeaR w' (fun k => k = w.heap.size) w.heap.size none none 0 (newLS many) ∧ Below w.heap.size w w' := by
  have d1 : decide (many < 1) = false := decide_eq_false (by omega)
  have d2 : decide (32 < many) = false := decide_eq_false (by omega)
  go_enter Try.func29, Try.ntmps29
  go_wp2
  refine bodyPost_ret (v := .tuple #[.pointer (some ⟨w.heap.size, 0, none⟩), .int .i64 0]) (by simp [results, Try.results29, go_sem]) rfl ?_
  refine ⟨rfl, ⟨?_, fun k hk => by simp; omega, fun k hk => ?_, ⟨by simp, by simp, by simp⟩, ⟨by simp, fun _ _ => rfl, fun a v e => by cases e⟩, ⟨by simp, fun _ _ => rfl, fun a v e => by cases e⟩, h, ⟨by constructor <;> simp [newLS], by constructor <;> simp [newLS], by constructor <;> simp [newLS]⟩, fun hs => absurd rfl hs⟩, (Below.refl _ _).alloc (Nat.le_refl _) _⟩
  · have := heap_alloc_new w (.cells #[.int .i64 many, .int .i64 0, .int .u64 0, .int .u64 0, .int .u64 0, .int .u32 0, .map none, .map none] 116)
    unfold newLS
    simp only [msk_none]
    exact this
  · rcases hk with e | e | e
    · exact e
    · cases e
    · cases e
theorem lnew_bad {many : Int} (h : ¬ (1 ≤ many ∧ many ≤ 32)) (w : World) : Calls Try.prog 29 #[.int .i64 many] w fun e w' => e = .returned (.tuple #[.pointer none, .int .i64 1]) ∧ w = w' := by
  rcases Int.lt_or_le many 1 with h1 | h1
  · have d1 : decide (many < 1) = true := decide_eq_true h1
    go_enter Try.func29, Try.ntmps29
    go_wp2
    refine bodyPost_ret (v := .tuple #[.pointer none, .int .i64 1]) (by simp [results, Try.results29, go_sem]) rfl ?_
    exact ⟨rfl, rfl⟩
  · have d1 : decide (many < 1) = false := decide_eq_false (by omega)
    have d2 : decide (32 < many) = true := decide_eq_true (by omega)
    go_enter Try.func29, Try.ntmps29
    go_wp2
    refine bodyPost_ret (v := .tuple #[.pointer none, .int .i64 1]) (by simp [results, Try.results29, go_sem]) rfl ?_
    exact ⟨rfl, rfl⟩
theorem lballot_any {D : Nat → Prop} {w : World} {b0 N : Nat} {ko lo : Option Nat} {A : LS} (h : LeaR w D b0 ko lo N A) : Calls Try.prog 44 #[.pointer (some ⟨b0, 0, none⟩)] w fun e w' => e = .returned (.int .u64 A.ballot) ∧ w = w' := by
  obtain ⟨⟨c0, c1, c2, _⟩, _⟩ := h.cell
  clear h
  go_enter Try.func44, Try.ntmps44
  go_wp2
  go_ret
  exact ⟨rfl, rfl⟩
theorem lleads_any {D : Nat → Prop} {w : World} {b0 N : Nat} {ko lo : Option Nat} {A : LS} (h : LeaR w D b0 ko lo N A) : Calls Try.prog 43 #[.pointer (some ⟨b0, 0, none⟩)] w fun e w' => e = .returned (.bool (A.stage == 2)) ∧ w = w' := by
  obtain ⟨⟨c0, c1, c2, _⟩, _⟩ := h.cell
  clear h
  go_enter Try.func43, Try.ntmps43
  go_wp2
  go_ret
  exact ⟨rfl, rfl⟩
end Go.Proofs.Ytjdjfhioobhcjaa
