/-
  Package client: how one lies in memory.
-/
import Derived.Test.YtdmfladjhjpafaaCli2
namespace Go.Proofs.Ytdmfladjhjpafaa
open Go.ChangeShapes Go.WideShapes Go.ChangeAt Go.RowKit Go.Maps
set_option maxRecDepth 100000

/-- What is asked for. -/
structure Cl where
  op : Int
  sh : Int
  sg : Int
  pos : Int
  body : List Int
/-- A client: its number, the last call's, who is where, what is open. -/
structure CS where
  id : Int
  last : Int
  shards : List (List Int)
  orders : List Int
  l : Int → Option (Cl × Int)
theorem zeroCOpen (w : World) : (zeroValue 61).run Try.prog w = .ok (.agg #[.int .i64 0, .int .i64 0, .int .i64 0, .int .u64 0, .slice none 0 0, .int .i64 0]) w := by kernel_rfl
/-- How an open call lies in its map. -/
def ClV (w : World) (D R : Nat → Prop) (fv : Option Value) : Option (Cl × Int) → Prop
  | none => fv = none
  | some (x, m) => ∃ sv, fv = some (.agg #[.int .i64 x.op, .int .i64 x.sh, .int .i64 x.sg, .int .u64 x.pos, sv, .int .i64 m]) ∧ SlR w sv (u8s x.body) ∧ ∀ k, sv.ownBlock = some k → D k ∧ ¬ R k
/-- May a call be, where shards' rows are these? -/
structure ClOk (shards : List (List Int)) (x : Cl) : Prop where
  op : 1 ≤ x.op ∧ x.op ≤ 5
  sh : 0 ≤ x.sh ∧ x.sh < 8
  sg : 0 ≤ x.sg ∧ x.sg < 4
  pos : U1 x.pos
  u8 : U8 x.body
  len : x.body.length ≤ 1024
  there : x.op ≤ 2 → ∃ r, shards[x.sh.toNat]? = some r ∧ x.sg < r.length
structure CMap (w : World) (D R : Nat → Prop) (bm : Nat) (N : Nat) (A : CS) : Prop where
  at_ : ∃ f, MapR w Try.prog 28 bm N f ∧ (∀ a : Int, U1 a → ClV w D R (f (.int .u64 a)) (A.l a)) ∧ ∀ kl, (f kl).isSome = true → ∃ a : Int, U1 a ∧ kl = .int .u64 a
  small : ∀ a x m, A.l a = some (x, m) → U1 a ∧ ClOk A.shards x ∧ 0 ≤ m ∧ m ≤ 1000000
theorem ClV.keep {S D D' R R' : Nat → Prop} {w w' : World} {fv : Option Value} {mx : Option (Cl × Int)} (hk : Keep S w w') (hS : ∀ k, S k → D k → R k) (hD : ∀ k, D k → D' k) (hR : ∀ k, D k → R' k → R k) (h : ClV w D R fv mx) : ClV w' D' R' fv mx := by
  cases mx with
  | none => exact h
  | some s =>
    obtain ⟨x, m⟩ := s
    obtain ⟨sv, h1, h2, h3⟩ := h
    exact ⟨sv, h1, h2.keep hk (fun k hk' hs => (h3 k hk').2 (hS k hs (h3 k hk').1)), fun k hk => ⟨hD k (h3 k hk).1, fun hr => (h3 k hk).2 (hR k (h3 k hk).1 hr)⟩⟩
theorem CMap.keep {S D D' R R' : Nat → Prop} {w w' : World} {bm N M : Nat} {A : CS} (h : CMap w D R bm N A) (hk : Keep S w w') (hS : ∀ k, S k → D k → R k) (hm : ¬ S bm) (hD : ∀ k, D k → D' k) (hR : ∀ k, D k → R' k → R k) (hM : N ≤ M) : CMap w' D' R' bm M A :=
  ⟨by obtain ⟨f, h1, h2, h3⟩ := h.at_; exact ⟨f, (h1.keep hk hm).mono hM, fun a ha => (h2 a ha).keep hk hS hD hR, h3⟩, h.small⟩
/-- Rows of numbers, each with a slice of its own. -/
def RowsD (w : World) (D R : Nat → Prop) (v : Value) (L : List (List Int)) : Prop := ∃ vs, SlR w v vs ∧ ValsK w .i64 vs L ∧ (∀ k, v.ownBlock = some k → D k ∧ ¬ R k) ∧ ∀ u ∈ vs, ∀ k, u.ownBlock = some k → D k ∧ ¬ R k
theorem RowsD.keep {S D D' R R' : Nat → Prop} {w w' : World} {v : Value} {L : List (List Int)} (hk : Keep S w w') (hS : ∀ k, S k → D k → R k) (hD : ∀ k, D k → D' k) (hR : ∀ k, D k → R' k → R k) (h : RowsD w D R v L) : RowsD w' D' R' v L := by
  obtain ⟨vs, h1, h2, h3, h4⟩ := h
  exact ⟨vs, h1.keep hk (fun k hk' hs => (h3 k hk').2 (hS k hs (h3 k hk').1)), h2.keep hk (fun u hu k hk' hs => (h4 u hu k hk').2 (hS k hs (h4 u hu k hk').1)),
    fun k hk => ⟨hD k (h3 k hk).1, fun hr => (h3 k hk).2 (hR k (h3 k hk).1 hr)⟩, fun u hu k hk => ⟨hD k (h4 u hu k hk).1, fun hr => (h4 u hu k hk).2 (hR k (h4 u hu k hk).1 hr)⟩⟩
theorem RowsD.rows {D R : Nat → Prop} {w : World} {v : Value} {L : List (List Int)} (h : RowsD w D R v L) : RowsK w .i64 v L := by
  obtain ⟨vs, h1, h2, _⟩ := h
  exact ⟨vs, h1, h2⟩
def CR (b0 bm k : Nat) : Prop := k = b0 ∨ k = bm
structure CliR (w : World) (D : Nat → Prop) (b0 bm : Nat) (N : Nat) (A : CS) : Prop where
  cells : ∃ sv ov, w.heap[b0]? = some (.cells #[.int .u64 A.id, .int .u64 A.last, sv, ov, .map (some bm)] 57 (0, 0)) ∧ RowsD w D (CR b0 bm) sv A.shards ∧ SlR w ov (i64s A.orders) ∧ ∀ k, ov.ownBlock = some k → D k ∧ ¬ CR b0 bm k
  lt : ∀ k, D k → k < w.heap.size
  dr : ∀ k, CR b0 bm k → D k
  ne : bm ≠ b0
  map : CMap w D (CR b0 bm) bm N A
  num : U1 A.id ∧ 0 ≤ A.last ∧ A.last ≤ 1000000
  ord : 1 ≤ A.orders.length ∧ A.orders.length ≤ 7
theorem CliR.keep {S D : Nat → Prop} {w w' : World} {b0 bm N : Nat} {A : CS} (h : CliR w D b0 bm N A) (hk : Keep S w w') (hS : ∀ k, S k → ¬ D k) : CliR w' D b0 bm N A := by
  obtain ⟨sv, ov, h1, h2, h3, h4⟩ := h.cells
  have hS' : ∀ k, S k → D k → CR b0 bm k := fun k hs hd => absurd hd (hS k hs)
  exact ⟨⟨sv, ov, (hk.block b0 (h.lt _ (h.dr _ (Or.inl rfl))) (fun hs => hS _ hs (h.dr _ (Or.inl rfl)))).trans h1, h2.keep hk hS' (fun _ h => h) (fun _ _ h => h), h3.keep hk (fun k hk' hs => hS k hs (h4 k hk').1), h4⟩,
    fun k hd => Nat.lt_of_lt_of_le (h.lt k hd) hk.size, h.dr, h.ne, h.map.keep hk hS' (fun hs => hS _ hs (h.dr _ (Or.inr rfl))) (fun _ h => h) (fun _ _ h => h) (Nat.le_refl _), h.num, h.ord⟩
theorem CliR.below {B : Nat} {D : Nat → Prop} {w w' : World} {b0 bm N : Nat} {A : CS} (h : CliR w D b0 bm N A) (hb : Below B w w') (hB : w.heap.size ≤ B) : CliR w' D b0 bm N A := by
  refine h.keep (S := fun k => w.heap.size ≤ k) (Below.keep hb (fun k hk h => by omega)) (fun k hk hd => ?_)
  have := h.lt k hd
  omega
theorem CliR.cell {D : Nat → Prop} {w : World} {b0 bm N : Nat} {A : CS} (h : CliR w D b0 bm N A) : ∃ sv ov, (w.cell? ⟨b0, 0, none⟩ = some (.int .u64 A.id) ∧ w.cell? ⟨b0, 1, none⟩ = some (.int .u64 A.last) ∧ w.cell? ⟨b0, 2, none⟩ = some sv ∧ w.cell? ⟨b0, 3, none⟩ = some ov ∧ w.cell? ⟨b0, 4, none⟩ = some (.map (some bm))) ∧
    (∀ j, w.frozen? ⟨b0, j, none⟩ = false) ∧ w.heap[b0]? = some (.cells #[.int .u64 A.id, .int .u64 A.last, sv, ov, .map (some bm)] 57 (0, 0)) ∧ RowsD w D (CR b0 bm) sv A.shards ∧ SlR w ov (i64s A.orders) ∧ ∀ k, ov.ownBlock = some k → D k ∧ ¬ CR b0 bm k := by
  obtain ⟨sv, ov, h1, h2, h3, h4⟩ := h.cells
  refine ⟨sv, ov, ?_, ?_, h1, h2, h3, h4⟩
  · simp [World.cell?, h1]
  · intro j; simp [World.frozen?, h1]
end Go.Proofs.Ytdmfladjhjpafaa
