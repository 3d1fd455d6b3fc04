/-
  Package leader: Propose, where it leads.
-/
import Derived.Test.YtgmdedkingampaaGreatPop
import Derived.Test.YtgmdedkingampaaGreatSepB
set_option linter.unusedVariables false
set_option linter.unusedSimpArgs false
namespace Go.Proofs.YtgmdedkingampaaGreat
open Go.ChangeShapes Go.WideShapes Go.ChangeAt Go.RowKit Go.Maps
set_option maxRecDepth 100000

theorem zeroOpen (w : World) : (zeroValue 129).run Tryz.prog w = .ok (.agg #[.int .u64 0, .int .u64 0, .slice none 0 0, .int .u32 0]) w := by kernel_rfl
/-- What one proposes. -/
structure LS where
  many : Int
  stage : Int
  ballot : Int
  first : Int
  next : Int
  prom : Nat → Bool
  kn : Int → Option Vt
  op : Int → Option (Vt × (Nat → Bool))
/-- How a known vote lies in its map. -/
def LvV (w : World) (D R : Nat → Prop) (fv : Option Value) : Option Vt → Prop
  | none => fv = none
  | some v => ∃ sv, fv = some (.agg #[.int .u64 v.slot, .int .u64 v.ballot, sv]) ∧ SlR w sv (u8s v.val) ∧ ∀ k, sv.ownBlock = some k → D k ∧ ¬ R k
/-- How a proposal lies in its map. -/
def OpV (w : World) (D R : Nat → Prop) (fv : Option Value) : Option (Vt × (Nat → Bool)) → Prop
  | none => fv = none
  | some (v, f) => ∃ sv, fv = some (.agg #[.int .u64 v.slot, .int .u64 v.ballot, sv, .int .u32 (msk 32 f)]) ∧ SlR w sv (u8s v.val) ∧ ∀ k, sv.ownBlock = some k → D k ∧ ¬ R k
def LtOk (a : Int) (v : Vt) : Prop := v.slot = a ∧ U1 v.ballot ∧ U8 v.val ∧ v.val.length ≤ 1000000
/-- A map of known votes; nil is empty. -/
structure KMap (w : World) (D R : Nat → Prop) (mo : Option Nat) (N : Nat) (l : Int → Option Vt) : Prop where
  some_ : ∀ b, mo = some b → ∃ f, MapR w Tryz.prog 39 b N f ∧ (∀ a : Int, U1 a → LvV w D R (f (.int .u64 a)) (l a)) ∧ ∀ kl, (f kl).isSome = true → ∃ a : Int, U1 a ∧ kl = .int .u64 a
  none_ : mo = none → ∀ a, l a = none
  small : ∀ a v, l a = some v → U1 a ∧ LtOk a v
structure OMap (w : World) (D R : Nat → Prop) (mo : Option Nat) (N : Nat) (l : Int → Option (Vt × (Nat → Bool))) : Prop where
  some_ : ∀ b, mo = some b → ∃ f, MapR w Tryz.prog 39 b N f ∧ (∀ a : Int, U1 a → OpV w D R (f (.int .u64 a)) (l a)) ∧ ∀ kl, (f kl).isSome = true → ∃ a : Int, U1 a ∧ kl = .int .u64 a
  none_ : mo = none → ∀ a, l a = none
  small : ∀ a v, l a = some v → U1 a ∧ LtOk a v.1
theorem LvV.keep {S D D' R R' : Nat → Prop} {w w' : World} {fv : Option Value} {mx : Option Vt} (hk : Keep S w w') (hS : ∀ k, S k → D k → R k) (hD : ∀ k, D k → D' k) (hR : ∀ k, D k → R' k → R k) (h : LvV w D R fv mx) : LvV w' D' R' fv mx := by
  cases mx with
  | none => exact h
  | some s =>
    obtain ⟨sv, h1, h2, h3⟩ := h
    exact ⟨sv, h1, h2.keep hk (fun k hk' hs => (h3 k hk').2 (hS k hs (h3 k hk').1)), fun k hk => ⟨hD k (h3 k hk).1, fun hr => (h3 k hk).2 (hR k (h3 k hk).1 hr)⟩⟩
theorem OpV.keep {S D D' R R' : Nat → Prop} {w w' : World} {fv : Option Value} {mx : Option (Vt × (Nat → Bool))} (hk : Keep S w w') (hS : ∀ k, S k → D k → R k) (hD : ∀ k, D k → D' k) (hR : ∀ k, D k → R' k → R k) (h : OpV w D R fv mx) : OpV w' D' R' fv mx := by
  cases mx with
  | none => exact h
  | some s =>
    obtain ⟨v, f⟩ := s
    obtain ⟨sv, h1, h2, h3⟩ := h
    exact ⟨sv, h1, h2.keep hk (fun k hk' hs => (h3 k hk').2 (hS k hs (h3 k hk').1)), fun k hk => ⟨hD k (h3 k hk).1, fun hr => (h3 k hk).2 (hR k (h3 k hk).1 hr)⟩⟩
/-- Behind writes to none of its blocks, or to reserved ones that are not its own. -/
theorem KMap.keep {S D D' R R' : Nat → Prop} {w w' : World} {mo : Option Nat} {N M : Nat} {l : Int → Option Vt} (h : KMap w D R mo N l) (hk : Keep S w w') (hS : ∀ k, S k → D k → R k) (hm : ∀ b, mo = some b → ¬ S b) (hD : ∀ k, D k → D' k) (hR : ∀ k, D k → R' k → R k) (hM : N ≤ M) : KMap w' D' R' mo M l :=
  ⟨fun b e => by obtain ⟨f, h1, h2, h3⟩ := h.some_ b e; exact ⟨f, (h1.keep hk (hm b e)).mono hM, fun a ha => (h2 a ha).keep hk hS hD hR, h3⟩, h.none_, h.small⟩
theorem OMap.keep {S D D' R R' : Nat → Prop} {w w' : World} {mo : Option Nat} {N M : Nat} {l : Int → Option (Vt × (Nat → Bool))} (h : OMap w D R mo N l) (hk : Keep S w w') (hS : ∀ k, S k → D k → R k) (hm : ∀ b, mo = some b → ¬ S b) (hD : ∀ k, D k → D' k) (hR : ∀ k, D k → R' k → R k) (hM : N ≤ M) : OMap w' D' R' mo M l :=
  ⟨fun b e => by obtain ⟨f, h1, h2, h3⟩ := h.some_ b e; exact ⟨f, (h1.keep hk (hm b e)).mono hM, fun a ha => (h2 a ha).keep hk hS hD hR, h3⟩, h.none_, h.small⟩
/-- The blocks that are no vote's. -/
def LR (b0 : Nat) (ko lo : Option Nat) (k : Nat) : Prop := k = b0 ∨ ko = some k ∨ lo = some k
structure LeaR (w : World) (D : Nat → Prop) (b0 : Nat) (ko lo : Option Nat) (N : Nat) (A : LS) : Prop where
  cells : w.heap[b0]? = some (.cells #[.int .i64 A.many, .int .i64 A.stage, .int .u64 A.ballot, .int .u64 A.first, .int .u64 A.next, .int .u32 (msk 32 A.prom), .map ko, .map lo] 126 (0, 0))
  lt : ∀ k, D k → k < w.heap.size
  dr : ∀ k, LR b0 ko lo k → D k
  ne : (∀ b, ko = some b → b ≠ b0) ∧ (∀ b, lo = some b → b ≠ b0) ∧ ∀ b, ko = some b → lo ≠ some b
  kn : KMap w D (LR b0 ko lo) ko N A.kn
  op : OMap w D (LR b0 ko lo) lo N A.op
  many : 1 ≤ A.many ∧ A.many ≤ 32
  num : U1 A.ballot ∧ U1 A.first ∧ U1 A.next
  live : A.stage ≠ 0 → ko.isSome = true ∧ lo.isSome = true
theorem LeaR.keep {S D : Nat → Prop} {w w' : World} {b0 N : Nat} {ko lo : Option Nat} {A : LS} (h : LeaR w D b0 ko lo N A) (hk : Keep S w w') (hS : ∀ k, S k → ¬ D k) : LeaR w' D b0 ko lo N A :=
  ⟨(hk.block b0 (h.lt _ (h.dr _ (Or.inl rfl))) (fun hs => hS _ hs (h.dr _ (Or.inl rfl)))).trans h.cells, fun k hd => Nat.lt_of_lt_of_le (h.lt k hd) hk.size, h.dr, h.ne,
   h.kn.keep hk (fun k hs hd => absurd hd (hS k hs)) (fun b e hs => hS b hs (h.dr b (Or.inr (Or.inl e)))) (fun _ h => h) (fun _ _ h => h) (Nat.le_refl _),
   h.op.keep hk (fun k hs hd => absurd hd (hS k hs)) (fun b e hs => hS b hs (h.dr b (Or.inr (Or.inr e)))) (fun _ h => h) (fun _ _ h => h) (Nat.le_refl _), h.many, h.num, h.live⟩
theorem LeaR.below {B : Nat} {D : Nat → Prop} {w w' : World} {b0 N : Nat} {ko lo : Option Nat} {A : LS} (h : LeaR w D b0 ko lo N A) (hb : Below B w w') (hB : w.heap.size ≤ B) : LeaR w' D b0 ko lo N A := by
  refine h.keep (S := fun k => w.heap.size ≤ k) (Below.keep hb (fun k hk h => by omega)) (fun k hk hd => ?_)
  have := h.lt k hd
  omega
theorem LeaR.cell {D : Nat → Prop} {w : World} {b0 N : Nat} {ko lo : Option Nat} {A : LS} (h : LeaR w D b0 ko lo N A) : (w.cell? ⟨b0, 0, none⟩ = some (.int .i64 A.many) ∧ w.cell? ⟨b0, 1, none⟩ = some (.int .i64 A.stage) ∧ w.cell? ⟨b0, 2, none⟩ = some (.int .u64 A.ballot) ∧
    w.cell? ⟨b0, 3, none⟩ = some (.int .u64 A.first) ∧ w.cell? ⟨b0, 4, none⟩ = some (.int .u64 A.next) ∧ w.cell? ⟨b0, 5, none⟩ = some (.int .u32 (msk 32 A.prom)) ∧ w.cell? ⟨b0, 6, none⟩ = some (.map ko) ∧ w.cell? ⟨b0, 7, none⟩ = some (.map lo)) ∧ ∀ j, w.frozen? ⟨b0, j, none⟩ = false := by
  have := h.cells
  simp [World.cell?, World.frozen?, this]
/-- Some numbers of it turn; its maps stay. -/
theorem LeaR.turn {D : Nat → Prop} {w w' : World} {b0 N : Nat} {ko lo : Option Nat} {A A' : LS} (h : LeaR w D b0 ko lo N A) (hk : Keep (fun k => k = b0) w w') (hc : w'.heap[b0]? = some (.cells #[.int .i64 A'.many, .int .i64 A'.stage, .int .u64 A'.ballot, .int .u64 A'.first, .int .u64 A'.next, .int .u32 (msk 32 A'.prom), .map ko, .map lo] 126 (0, 0)))
    (hkn : A'.kn = A.kn) (hop : A'.op = A.op) (hm : 1 ≤ A'.many ∧ A'.many ≤ 32) (hn : U1 A'.ballot ∧ U1 A'.first ∧ U1 A'.next) (hl : A'.stage ≠ 0 → A.stage ≠ 0) : LeaR w' D b0 ko lo N A' :=
  ⟨hc, fun k hd => Nat.lt_of_lt_of_le (h.lt k hd) hk.size, h.dr, h.ne,
   by rw [hkn]; exact h.kn.keep hk (fun k hs _ => Or.inl hs) (fun b e hs => h.ne.1 b e hs) (fun _ h => h) (fun _ _ h => h) (Nat.le_refl _),
   by rw [hop]; exact h.op.keep hk (fun k hs _ => Or.inl hs) (fun b e hs => h.ne.2.1 b e hs) (fun _ h => h) (fun _ _ h => h) (Nat.le_refl _), hm, hn, fun hs => h.live (hl hs)⟩
def newLS (many : Int) : LS := ⟨many, 0, 0, 0, 0, fun _ => false, fun _ => none, fun _ => none⟩
theorem msk_none (n : Nat) : msk n (fun _ => false) = 0 := by
  induction n with
  | zero => rfl
  | succ n ih => unfold msk; rw [ih]; rfl
theorem lnew_ok {many : Int} (h : 1 ≤ many ∧ many ≤ 32) (w : World) : Calls Tryz.prog 61 #[.int .i64 many] w fun e w' => e = .returned (.tuple #[.pointer (some ⟨w.heap.size, 0, none⟩), .int .i64 0]) ∧ LeaR w' (fun k => k = w.heap.size) w.heap.size none none 0 (newLS many) ∧ Below w.heap.size w w' := by
  have d1 : decide (many < 1) = false := decide_eq_false (by omega)
  have d2 : decide (32 < many) = false := decide_eq_false (by omega)
  go_enter Tryz.func61, Tryz.ntmps61
  go_wp2
  refine bodyPost_ret (v := .tuple #[.pointer (some ⟨w.heap.size, 0, none⟩), .int .i64 0]) (by simp [results, Tryz.results61, go_sem]) rfl ?_
  refine ⟨rfl, ⟨?_, fun k hk => by simp; omega, fun k hk => ?_, ⟨by simp, by simp, by simp⟩, ⟨by simp, fun _ _ => rfl, fun a v e => by cases e⟩, ⟨by simp, fun _ _ => rfl, fun a v e => by cases e⟩, h, ⟨by constructor <;> simp [newLS], by constructor <;> simp [newLS], by constructor <;> simp [newLS]⟩, fun hs => absurd rfl hs⟩, (Below.refl _ _).alloc (Nat.le_refl _) _⟩
  · have := heap_alloc_new w (.cells #[.int .i64 many, .int .i64 0, .int .u64 0, .int .u64 0, .int .u64 0, .int .u32 0, .map none, .map none] 126)
    unfold newLS
    simp only [msk_none]
    exact this
  · rcases hk with e | e | e
    · exact e
    · cases e
    · cases e
theorem lnew_bad {many : Int} (h : ¬ (1 ≤ many ∧ many ≤ 32)) (w : World) : Calls Tryz.prog 61 #[.int .i64 many] w fun e w' => e = .returned (.tuple #[.pointer none, .int .i64 1]) ∧ w = w' := by
  rcases Int.lt_or_le many 1 with h1 | h1
  · have d1 : decide (many < 1) = true := decide_eq_true h1
    go_enter Tryz.func61, Tryz.ntmps61
    go_wp2
    refine bodyPost_ret (v := .tuple #[.pointer none, .int .i64 1]) (by simp [results, Tryz.results61, go_sem]) rfl ?_
    exact ⟨rfl, rfl⟩
  · have d1 : decide (many < 1) = false := decide_eq_false (by omega)
    have d2 : decide (32 < many) = true := decide_eq_true (by omega)
    go_enter Tryz.func61, Tryz.ntmps61
    go_wp2
    refine bodyPost_ret (v := .tuple #[.pointer none, .int .i64 1]) (by simp [results, Tryz.results61, go_sem]) rfl ?_
    exact ⟨rfl, rfl⟩
theorem lballot_any {D : Nat → Prop} {w : World} {b0 N : Nat} {ko lo : Option Nat} {A : LS} (h : LeaR w D b0 ko lo N A) : Calls Tryz.prog 37 #[.pointer (some ⟨b0, 0, none⟩)] w fun e w' => e = .returned (.int .u64 A.ballot) ∧ w = w' := by
  obtain ⟨⟨c0, c1, c2, _⟩, _⟩ := h.cell
  clear h
  go_enter Tryz.func37, Tryz.ntmps37
  go_wp2
  go_ret
  exact ⟨rfl, rfl⟩
theorem lleads_any {D : Nat → Prop} {w : World} {b0 N : Nat} {ko lo : Option Nat} {A : LS} (h : LeaR w D b0 ko lo N A) : Calls Tryz.prog 32 #[.pointer (some ⟨b0, 0, none⟩)] w fun e w' => e = .returned (.bool (A.stage == 2)) ∧ w = w' := by
  obtain ⟨⟨c0, c1, c2, _⟩, _⟩ := h.cell
  clear h
  go_enter Tryz.func32, Tryz.ntmps32
  go_wp2
  go_ret
  exact ⟨rfl, rfl⟩
end Go.Proofs.YtgmdedkingampaaGreat

namespace Go.Proofs.YtgmdedkingampaaGreat
open Go.ChangeShapes Go.WideShapes Go.ChangeAt Go.RowKit Go.Maps
set_option maxRecDepth 100000

def stopL (A : LS) : LS := ⟨A.many, 0, A.ballot, A.first, A.next, A.prom, A.kn, fun _ => none⟩
theorem lstop_any {D : Nat → Prop} {w : World} {b0 N : Nat} {ko lo : Option Nat} {A : LS} (h : LeaR w D b0 ko lo N A) : Calls Tryz.prog 97 #[.pointer (some ⟨b0, 0, none⟩)] w fun e w' => e = .returned (.tuple #[]) ∧ LeaR w' D b0 ko none N (stopL A) ∧ Keep (fun k => k = b0) w w' := by
  obtain ⟨⟨c0, c1, c2, c3, c4, c5, c6, c7⟩, hz⟩ := h.cell
  have z1 := hz 1
  have z7 := hz 7
  have H := Lib.hid h
  clear h hz
  go_enter Tryz.func97, Tryz.ntmps97
  go_wp2
  go_end0
  have hk : Keep (fun k => k = b0) w ((w.setCell ⟨b0, 1, none⟩ (.int .i64 0)).setCell ⟨b0, 7, none⟩ (.map none)) := ((Keep.refl (fun k => k = b0) w).setCell (p := ⟨b0, 1, none⟩) (Or.inl rfl) _).setCell (p := ⟨b0, 7, none⟩) (Or.inl rfl) _
  have b1 := heap_setCell_same w b0 1 _ _ (.int .i64 0) H.out.cells
  have b2 := heap_setCell_same _ b0 7 _ _ (.map none) b1
  have h0 := H.out
  refine ⟨rfl, ⟨by simpa [stopL] using b2, fun k hd => Nat.lt_of_lt_of_le (h0.lt k hd) hk.size, fun k hr => h0.dr k (by rcases hr with e | e | e; exact Or.inl e; exact Or.inr (Or.inl e); cases e), ⟨h0.ne.1, by simp, by simp⟩,
    h0.kn.keep hk (fun k hs _ => Or.inl hs) (fun b e hs => h0.ne.1 b e hs) (fun _ h => h) (fun k _ hr => by rcases hr with e | e | e; exact Or.inl e; exact Or.inr (Or.inl e); cases e) (Nat.le_refl _), ⟨by simp, fun _ _ => rfl, fun a v e => by cases e⟩, h0.many, h0.num, fun hs => absurd rfl hs⟩, hk⟩
set_option maxHeartbeats 1000000 in
theorem lis_any {D : Nat → Prop} {w : World} {b0 N : Nat} {ko lo : Option Nat} {A : LS} (h : LeaR w D b0 ko lo N A) (st node b : Int) :
    Calls Tryz.prog 122 #[.pointer (some ⟨b0, 0, none⟩), .int .i64 st, .int .i64 node, .int .u64 b] w fun e w' => e = .returned (.bool (decide (A.stage = st ∧ b = A.ballot ∧ 0 ≤ node ∧ node < A.many))) ∧ w = w' := by
  obtain ⟨⟨c0, c1, c2, _⟩, _⟩ := h.cell
  clear h
  have fin : ∀ x : Bool, x = decide (A.stage = st ∧ b = A.ballot ∧ 0 ≤ node ∧ node < A.many) → Ending.returned (.bool x) = Ending.returned (.bool (decide (A.stage = st ∧ b = A.ballot ∧ 0 ≤ node ∧ node < A.many))) := fun x e => by rw [e]
  have HFin := Lib.hid fin
  clear fin
  by_cases h1 : A.stage = st
  · have d1 : (A.stage == st) = true := by rw [beq_iff_eq]; exact h1
    by_cases h2 : b = A.ballot
    · have d2 : (b == A.ballot) = true := by rw [beq_iff_eq]; exact h2
      by_cases h3 : 0 ≤ node
      · have d3 : decide (0 ≤ node) = true := decide_eq_true h3
        by_cases h4 : node < A.many
        · have d4 : decide (node < A.many) = true := decide_eq_true h4
          have HF := Lib.hid (HFin.out true (by simp [h1, h2, h3, h4]))
          clear h1 h2 HFin
          go_enter Tryz.func122, Tryz.ntmps122
          go_wp2
          go_ret
          exact ⟨HF.out, rfl⟩
        · have d4 : decide (node < A.many) = false := decide_eq_false h4
          have HF := Lib.hid (HFin.out false (by simp [h4]))
          clear h1 h2 h4 HFin
          go_enter Tryz.func122, Tryz.ntmps122
          go_wp2
          go_ret
          exact ⟨HF.out, rfl⟩
      · have d3 : decide (0 ≤ node) = false := decide_eq_false h3
        have HF := Lib.hid (HFin.out false (by simp [h3]))
        clear h1 h2 h3 HFin
        go_enter Tryz.func122, Tryz.ntmps122
        go_wp2
        go_ret
        exact ⟨HF.out, rfl⟩
    · have d2 : (b == A.ballot) = false := by rw [beq_eq_false_iff_ne]; exact h2
      have HF := Lib.hid (HFin.out false (by simp [h2]))
      clear h1 h2 HFin
      go_enter Tryz.func122, Tryz.ntmps122
      go_wp2
      go_ret
      exact ⟨HF.out, rfl⟩
  · have d1 : (A.stage == st) = false := by rw [beq_eq_false_iff_ne]; exact h1
    have HF := Lib.hid (HFin.out false (by simp [h1]))
    clear h1 HFin
    go_enter Tryz.func122, Tryz.ntmps122
    go_wp2
    go_ret
    exact ⟨HF.out, rfl⟩
theorem lmajority_any {D : Nat → Prop} {w : World} {b0 N : Nat} {ko lo : Option Nat} {A : LS} (h : LeaR w D b0 ko lo N A) (f : Nat → Bool) :
    Calls Tryz.prog 123 #[.pointer (some ⟨b0, 0, none⟩), .int .u32 (msk 32 f)] w fun e w' => e = .returned (.bool (decide (A.many / 2 < cnt 32 f))) ∧ Drew w w' := by
  obtain ⟨⟨c0, _⟩, _⟩ := h.cell
  have hm := h.many
  have hq : IntKind.i64.wrap (A.many.tdiv 2) = A.many / 2 := by rw [Int.tdiv_eq_ediv_of_nonneg (by omega)]; exact IntWalk.i64_in _ (by constructor <;> omega)
  clear h
  go_enter Tryz.func123, Tryz.ntmps123
  go_wp2_with fail
  go_quiet ((go_at_call 140; exact quiet_drew (ones_any f _)))
  go_wp2_with fail
  go_ret
  exact ⟨rfl, Drew.of _ _⟩
end Go.Proofs.YtgmdedkingampaaGreat

namespace Go.Proofs.YtgmdedkingampaaGreat
open Go.ChangeShapes Go.WideShapes Go.ChangeAt Go.RowKit Go.Maps
set_option maxRecDepth 100000

set_option maxHeartbeats 400000 in
theorem lcopied_any {sv : Value} {v : Vt} {w : World} (h : SlR w sv (u8s v.val)) (hl : v.val.length ≤ 1000000000) :
    Calls Tryz.prog 69 #[.agg #[.int .u64 v.slot, .int .u64 v.ballot, sv]] w (RetVt w v) := by
  obtain ⟨slot, ballot, xs⟩ := v
  simp only at h hl
  obtain ⟨ao, c, rfl, _, _⟩ := id h.form
  simp only [List.length_map] at h
  have hb1 := (Below.refl w.heap.size w).alloc (Nat.le_refl _) (.cells #[.int .u64 slot, .int .u64 ballot, .slice ao xs.length c] 80)
  have hb2 := hb1.alloc hb1.size (.cells #[.int .u64 0, .int .u64 0, .slice none 0 0] 80)
  have hs1 : (w.alloc (.cells #[.int .u64 slot, .int .u64 ballot, .slice ao xs.length c] 80)).heap.size = w.heap.size + 1 := by simp
  have HC := Lib.hid (cloneB_any (h.below hb2 (Nat.le_refl _)) hl)
  have hk1 : ((w.alloc (.cells #[.int .u64 slot, .int .u64 ballot, .slice ao xs.length c] 80)).alloc (.cells #[.int .u64 0, .int .u64 0, .slice none 0 0] 80)).heap[w.heap.size]? = some (.cells #[.int .u64 slot, .int .u64 ballot, .slice ao xs.length c] 80 (0, 0)) :=
    (Below.heap_alloc _ _ _ (by simp)).trans (heap_alloc_new w _)
  have hk2 : ((w.alloc (.cells #[.int .u64 slot, .int .u64 ballot, .slice ao xs.length c] 80)).alloc (.cells #[.int .u64 0, .int .u64 0, .slice none 0 0] 80)).heap[w.heap.size + 1]? = some (.cells #[.int .u64 0, .int .u64 0, .slice none 0 0] 80 (0, 0)) := by
    have := heap_alloc_new (w.alloc (.cells #[.int .u64 slot, .int .u64 ballot, .slice ao xs.length c] 80)) (.cells #[.int .u64 0, .int .u64 0, .slice none 0 0] 80 (0, 0))
    rw [hs1] at this; exact this
  have HB2 := Lib.hid hb2
  have HK1 := Lib.hid hk1
  have HK2 := Lib.hid hk2
  clear hb1 hb2 hk1 hk2 h
  go_enter Tryz.func69, Tryz.ntmps69
  go_wp2_with fail
  refine HC.out.mono ?_
  rintro e w3 ⟨v', rfl, hown, hb3⟩
  obtain ⟨ko, kc, rfl, _, _⟩ := own_form hown
  have k1 := (hb3.block w.heap.size (by simp; omega)).trans HK1.out
  have k2 := (hb3.block (w.heap.size + 1) (by simp)).trans HK2.out
  have q0 : w3.cell? ⟨w.heap.size, 0, none⟩ = some (.int .u64 slot) := by simp [World.cell?, k1]
  have q1 : w3.cell? ⟨w.heap.size, 1, none⟩ = some (.int .u64 ballot) := by simp [World.cell?, k1]
  have q2 : w3.cell? ⟨w.heap.size, 2, none⟩ = some (.slice ao xs.length c) := by simp [World.cell?, k1]
  have z2 : w3.frozen? ⟨w.heap.size, 2, none⟩ = false := by simp [World.frozen?, k1]
  have r0 : w3.cell? ⟨w.heap.size + 1, 0, none⟩ = some (.int .u64 0) := by simp [World.cell?, k2]
  have r1 : w3.cell? ⟨w.heap.size + 1, 1, none⟩ = some (.int .u64 0) := by simp [World.cell?, k2]
  have r2 : w3.cell? ⟨w.heap.size + 1, 2, none⟩ = some (.slice none 0 0) := by simp [World.cell?, k2]
  have y0 : w3.frozen? ⟨w.heap.size + 1, 0, none⟩ = false := by simp [World.frozen?, k2]
  have y1 : w3.frozen? ⟨w.heap.size + 1, 1, none⟩ = false := by simp [World.frozen?, k2]
  have y2 : w3.frozen? ⟨w.heap.size + 1, 2, none⟩ = false := by simp [World.frozen?, k2]
  have HO := Lib.hid (hown.weaken (base' := w.heap.size) (by have := HB2.out.size; exact this))
  have hge : ∀ k, (Value.slice ko xs.length kc).ownBlock = some k → w.heap.size + 2 ≤ k := fun k hk => by have := (hown.lt k hk).1; simp at this; omega
  have HG := Lib.hid hge
  have HB3 := Lib.hid (HB2.out.trans (hb3.mono HB2.out.size))
  have k3 : (w3.setCell ⟨w.heap.size, 2, none⟩ (.slice ko xs.length kc)).heap[w.heap.size + 1]? = _ := (Below.heap_setCell _ _ _ _ (by simp)).trans k2
  have b1 := heap_setCell_same _ (w.heap.size + 1) 0 _ _ (.int .u64 slot) k3
  have b2 := heap_setCell_same _ (w.heap.size + 1) 1 _ _ (.int .u64 ballot) b1
  have b3 := heap_setCell_same _ (w.heap.size + 1) 2 _ _ (.slice ko xs.length kc) b2
  have s0 := World.news_of_block b3 0 _ rfl
  have s1 := World.news_of_block b3 1 _ rfl
  have s2 := World.news_of_block b3 2 _ rfl
  have S0 := Lib.hid s0
  have S1 := Lib.hid s1
  have S2 := Lib.hid s2
  clear k1 k2 k3 b1 b2 b3 s0 s1 s2 hown hb3 hge
  go_wp2_with fail
  obtain ⟨W4, HW4⟩ : ∃ x, x = (((w3.setCell ⟨w.heap.size, 2, none⟩ (.slice ko xs.length kc)).setCell ⟨w.heap.size + 1, 0, none⟩ (.int .u64 slot)).setCell ⟨w.heap.size + 1, 1, none⟩ (.int .u64 ballot)).setCell ⟨w.heap.size + 1, 2, none⟩ (.slice ko xs.length kc) := ⟨_, rfl⟩
  rw [← HW4] at S0 S1 S2 ⊢
  have s0 : W4.cell? ⟨w.heap.size + 1, 0, none⟩ = some (.int .u64 slot) := S0.out
  have s1 : W4.cell? ⟨w.heap.size + 1, 1, none⟩ = some (.int .u64 ballot) := S1.out
  have s2 : W4.cell? ⟨w.heap.size + 1, 2, none⟩ = some (.slice ko xs.length kc) := S2.out
  refine bodyPost_ret (v := .agg #[.int .u64 slot, .int .u64 ballot, .slice ko xs.length kc]) (by simp [results, Tryz.results69, go_sem, s0, s1, s2]) rfl ?_
  subst HW4
  refine ⟨ko, kc, rfl, ?_, ?_⟩
  · refine own_keep HO.out (fun b hb => ?_)
    have := HG.out b hb
    repeat rw [Below.heap_setCell _ _ _ _ (by simp; omega)]
  · exact (((HB3.out.setCell (by simp) _).setCell (by simp) _).setCell (by simp) _).setCell (by simp) _
def beginL (A : LS) (b fr : Int) : LS := ⟨A.many, 1, b, fr, 0, fun _ => false, fun _ => none, fun _ => none⟩
theorem lbegin_old {D : Nat → Prop} {w : World} {b0 N : Nat} {ko lo : Option Nat} {A : LS} (h : LeaR w D b0 ko lo N A) {b fr : Int} (hb : b ≤ A.ballot) :
    Calls Tryz.prog 45 #[.pointer (some ⟨b0, 0, none⟩), .int .u64 b, .int .u64 fr] w fun e w' => e = .returned (.int .i64 32) ∧ w = w' := by
  obtain ⟨⟨c0, c1, c2, _⟩, _⟩ := h.cell
  clear h
  go_enter Tryz.func45, Tryz.ntmps45
  go_wp2
  go_ret
  exact ⟨rfl, rfl⟩
theorem lbegin_ok {D : Nat → Prop} {w : World} {b0 N : Nat} {ko lo : Option Nat} {A : LS} (h : LeaR w D b0 ko lo N A) {b fr : Int} (hb : A.ballot < b) (ub : U1 b) (uf : U1 fr) :
    Calls Tryz.prog 45 #[.pointer (some ⟨b0, 0, none⟩), .int .u64 b, .int .u64 fr] w fun e w' => e = .returned (.int .i64 0) ∧ ∃ D' bk bl, LeaR w' D' b0 (some bk) (some bl) 0 (beginL A b fr) ∧ Moved D D' w w' := by
  have hmm := @run_makeMap Tryz.prog
  obtain ⟨⟨c0, _, c2, _⟩, _⟩ := h.cell
  have hb2 : Below w.heap.size w ((w.alloc (.map #[] 0)).alloc (.map #[] 0)) := ((Below.refl _ _).alloc (Nat.le_refl _) _).alloc (by simp) _
  obtain ⟨⟨d0, d1, d2, d3, d4, d5, d6, d7⟩, hz⟩ := (h.below hb2 (Nat.le_refl _)).cell
  have z0 := hz 0
  have z1 := hz 1
  have z2 := hz 2
  have z3 := hz 3
  have z4 := hz 4
  have z5 := hz 5
  have z6 := hz 6
  have z7 := hz 7
  have hn : ¬ b ≤ A.ballot := by omega
  have H := Lib.hid h
  have HB2 := Lib.hid hb2
  have hs1 : (w.alloc (.map #[] 0)).heap.size = w.heap.size + 1 := by simp
  have hm1 : ((w.alloc (.map #[] 0)).alloc (.map #[] 0)).heap[w.heap.size]? = some (.map #[] 0) := (Below.heap_alloc _ _ _ (by simp)).trans (heap_alloc_new w _)
  have hm2 : ((w.alloc (.map #[] 0)).alloc (.map #[] 0)).heap[w.heap.size + 1]? = some (.map #[] 0) := by have := heap_alloc_new (w.alloc (.map #[] 0)) (.map #[] 0); rw [hs1] at this; exact this
  have HM1 := Lib.hid hm1
  have HM2 := Lib.hid hm2
  clear h hz hb hb2 hm1 hm2 hs1
  go_enter Tryz.func45, Tryz.ntmps45
  go_wp2
  go_ret
  have h0 := H.out
  have hb0 := h0.lt b0 (h0.dr b0 (Or.inl rfl))
  have e1 := (HB2.out.block b0 hb0).trans h0.cells
  have e2 := heap_setCell_same _ b0 0 _ _ (.int .i64 A.many) e1
  have e3 := heap_setCell_same _ b0 1 _ _ (.int .i64 1) e2
  have e4 := heap_setCell_same _ b0 2 _ _ (.int .u64 b) e3
  have e5 := heap_setCell_same _ b0 3 _ _ (.int .u64 fr) e4
  have e6 := heap_setCell_same _ b0 4 _ _ (.int .u64 0) e5
  have e7 := heap_setCell_same _ b0 5 _ _ (.int .u32 0) e6
  have e8 := heap_setCell_same _ b0 6 _ _ (.map (some w.heap.size)) e7
  have e9 := heap_setCell_same _ b0 7 _ _ (.map (some (w.heap.size + 1))) e8
  have hk : Keep (fun k => k = b0) ((w.alloc (.map #[] 0)).alloc (.map #[] 0)) _ :=
    ((((((((Keep.refl (fun k => k = b0) ((w.alloc (.map #[] 0)).alloc (.map #[] 0))).setCell (p := ⟨b0, 0, none⟩) (Or.inl rfl) (.int .i64 A.many)).setCell (p := ⟨b0, 1, none⟩) (Or.inl rfl) (.int .i64 1)).setCell (p := ⟨b0, 2, none⟩) (Or.inl rfl) (.int .u64 b)).setCell (p := ⟨b0, 3, none⟩) (Or.inl rfl) (.int .u64 fr)).setCell (p := ⟨b0, 4, none⟩) (Or.inl rfl) (.int .u64 0)).setCell (p := ⟨b0, 5, none⟩) (Or.inl rfl) (.int .u32 0)).setCell (p := ⟨b0, 6, none⟩) (Or.inl rfl) (.map (some w.heap.size))).setCell (p := ⟨b0, 7, none⟩) (Or.inl rfl) (.map (some (w.heap.size + 1)))
  have hz2 : ((w.alloc (.map #[] 0)).alloc (.map #[] 0)).heap.size = w.heap.size + 2 := by simp
  have m1 := (hk.block w.heap.size (by omega) (by omega)).trans HM1.out
  have m2 := (hk.block (w.heap.size + 1) (by omega) (by omega)).trans HM2.out
  have hsz := hk.size
  have hkw : Keep D w _ := (Below.keep0 D HB2.out).trans (hk.mono (fun k _ e => by subst e; exact h0.dr _ (Or.inl rfl)))
  simp at e9
  generalize (((((((((w.alloc (.map #[] 0)).alloc (.map #[] 0)).setCell ⟨b0, 0, none⟩ (.int .i64 A.many)).setCell ⟨b0, 1, none⟩ (.int .i64 1)).setCell ⟨b0, 2, none⟩ (.int .u64 b)).setCell ⟨b0, 3, none⟩ (.int .u64 fr)).setCell ⟨b0, 4, none⟩ (.int .u64 0)).setCell ⟨b0, 5, none⟩ (.int .u32 0)).setCell ⟨b0, 6, none⟩ (.map (some w.heap.size))).setCell ⟨b0, 7, none⟩ (.map (some (w.heap.size + 1))) = W9 at *
  have q1 : MapR W9 Tryz.prog 39 w.heap.size 0 (fun _ => none) := (MapR.made w Tryz.prog 39).same (m1.trans (heap_alloc_new w _).symm)
  have q2 : MapR W9 Tryz.prog 39 (w.heap.size + 1) 0 (fun _ => none) := by
    have := MapR.made (w.alloc (.map #[] 0)) Tryz.prog 39
    rw [show (w.alloc (.map #[] 0)).heap.size = w.heap.size + 1 by simp] at this
    exact this.same (m2.trans (by have := heap_alloc_new (w.alloc (.map #[] 0)) (.map #[] 0); rw [show (w.alloc (.map #[] 0)).heap.size = w.heap.size + 1 by simp] at this; exact this.symm))
  refine ⟨rfl, fun k => D k ∨ k = w.heap.size ∨ k = w.heap.size + 1, ⟨w.heap.size, w.heap.size + 1, ⟨?_, fun k hd => ?_, fun k hr => ?_, ⟨?_, ?_, ?_⟩, ⟨?_, by simp, fun a v e => by cases e⟩, ⟨?_, by simp, fun a v e => by cases e⟩, h0.many, ⟨ub, uf, ⟨by simp [beginL], by simp [beginL]⟩⟩, fun _ => ⟨rfl, rfl⟩⟩⟩, ⟨hkw, fun k hd => Or.inl hd, fun k hd => ?_⟩⟩
  · unfold beginL; simp only [msk_none]; exact e9
  · rcases hd with hd | hd | hd
    · have := h0.lt k hd; omega
    · omega
    · omega
  · rcases hr with e | e | e
    · subst e; exact Or.inl (h0.dr _ (Or.inl rfl))
    · cases e; exact Or.inr (Or.inl rfl)
    · cases e; exact Or.inr (Or.inr rfl)
  · intro c e; cases e; omega
  · intro c e; cases e; omega
  · intro c e e'
    have e1 : w.heap.size = c := by simpa using e
    have e2 : w.heap.size + 1 = c := by simpa using e'
    omega
  · intro c e; cases e; exact ⟨_, q1, fun _ _ => rfl, fun kl h => by cases h⟩
  · intro c e; cases e; exact ⟨_, q2, fun _ _ => rfl, fun kl h => by cases h⟩
  · rcases hd with hd | hd | hd
    · exact Or.inl hd
    · exact Or.inr (by omega)
    · exact Or.inr (by omega)
end Go.Proofs.YtgmdedkingampaaGreat

namespace Go.Proofs.YtgmdedkingampaaGreat
open Go.ChangeShapes Go.WideShapes Go.ChangeAt Go.RowKit Go.Maps
set_option maxRecDepth 100000

theorem and1_u32 {y : Int} (h0 : 0 ≤ y) (h1 : y < 4294967296) : bits BinOp.and IntKind.u32 y 1 = y % 2 := bits_mask .u32 32 (by decide) (fun n h0 h1 => IntWalk.u32_in n (by constructor <;> omega)) 1 (by decide) y h0 (by omega)
/-- A bit of a set's number. -/
theorem bit_of {f : Nat → Bool} {n : Nat} (hn : n < 32) : bits BinOp.and IntKind.u32 ((msk 32 f : Int) / 2 ^ n) 1 = if f n then 1 else 0 := by
  have hl : msk 32 f < 4294967296 := msk_lt 32 f
  have hbit := msk_bit (n := 32) f hn
  have e1 : (msk 32 f : Int) / 2 ^ n = ((msk 32 f / 2 ^ n : Nat) : Int) := by simp
  have hle : msk 32 f / 2 ^ n ≤ msk 32 f := Nat.div_le_self _ _
  rw [e1]
  generalize msk 32 f / 2 ^ n = y at *
  rw [and1_u32 (by omega) (by omega)]
  split at hbit
  · rename_i h; rw [if_pos h]; omega
  · rename_i h; rw [if_neg h]; omega
theorem lprom_no {D : Nat → Prop} {w : World} {b0 N : Nat} {ko lo : Option Nat} {A : LS} (h : LeaR w D b0 ko lo N A) {node b low : Int} {v : Value} (hno : ¬ (A.stage = 1 ∧ b = A.ballot ∧ 0 ≤ node ∧ node < A.many)) :
    Calls Tryz.prog 91 #[.pointer (some ⟨b0, 0, none⟩), .int .i64 node, .int .u64 b, .int .u64 low, v] w fun e w' => e = .returned (.tuple #[.slice none 0 0, .bool false]) ∧ w = w' := by
  have HI := Lib.hid (lis_any h 1 node b)
  have hd : decide (A.stage = 1 ∧ b = A.ballot ∧ 0 ≤ node ∧ node < A.many) = false := decide_eq_false hno
  rw [hd] at HI
  clear h hno hd
  go_enter Tryz.func91, Tryz.ntmps91
  go_wp2_with fail
  refine HI.out.mono ?_
  rintro e w1 ⟨rfl, rfl⟩
  go_wp2_with fail
  refine bodyPost_ret (v := .tuple #[.slice none 0 0, .bool false]) (by simp [results, Tryz.results91, go_sem]) rfl ?_
  exact ⟨rfl, rfl⟩
theorem lprom_twice {D : Nat → Prop} {w : World} {b0 N : Nat} {ko lo : Option Nat} {A : LS} (h : LeaR w D b0 ko lo N A) {n : Nat} {b low : Int} {v : Value} (hyes : A.stage = 1 ∧ b = A.ballot ∧ 0 ≤ (n : Int) ∧ (n : Int) < A.many) (hp : A.prom n = true) :
    Calls Tryz.prog 91 #[.pointer (some ⟨b0, 0, none⟩), .int .i64 n, .int .u64 b, .int .u64 low, v] w fun e w' => e = .returned (.tuple #[.slice none 0 0, .bool false]) ∧ w = w' := by
  have HI := Lib.hid (lis_any h 1 n b)
  have hd : decide (A.stage = 1 ∧ b = A.ballot ∧ 0 ≤ (n : Int) ∧ (n : Int) < A.many) = true := decide_eq_true hyes
  rw [hd] at HI
  have hm := h.many
  have hn32 : n < 32 := by omega
  obtain ⟨⟨c0, c1, c2, c3, c4, c5, c6, c7⟩, _⟩ := h.cell
  have hand := bit_of (f := A.prom) hn32
  rw [if_pos hp] at hand
  clear h hyes hd hp
  generalize msk 32 A.prom = x at *
  go_enter Tryz.func91, Tryz.ntmps91
  go_wp2_with fail
  refine HI.out.mono ?_
  rintro e w1 ⟨rfl, rfl⟩
  go_wp2_with fail
  refine bodyPost_ret (v := .tuple #[.slice none 0 0, .bool false]) (by simp [results, Tryz.results91, go_sem]) rfl ?_
  exact ⟨rfl, rfl⟩
end Go.Proofs.YtgmdedkingampaaGreat

namespace Go.Proofs.YtgmdedkingampaaGreat
open Go.ChangeShapes Go.WideShapes Go.ChangeAt Go.RowKit Go.Maps
set_option maxRecDepth 100000

/-- A vote is known. -/
def knP (A : LS) (v : Vt) : LS := ⟨A.many, A.stage, A.ballot, A.first, A.next, A.prom, fun a => if a = v.slot then some v else A.kn a, A.op⟩
/-- A proposal stands. -/
def opP (A : LS) (v : Vt) (g : Nat → Bool) : LS := ⟨A.many, A.stage, A.ballot, A.first, A.next, A.prom, A.kn, fun a => if a = v.slot then some (v, g) else A.op a⟩
def opD (A : LS) (s : Int) : LS := ⟨A.many, A.stage, A.ballot, A.first, A.next, A.prom, A.kn, fun a => if a = s then none else A.op a⟩
theorem LR_lt {w : World} {D : Nat → Prop} {b0 N : Nat} {ko lo : Option Nat} {A : LS} (h : LeaR w D b0 ko lo N A) : ∀ k, LR b0 ko lo k → k < w.heap.size := fun k hk => h.lt k (h.dr k hk)
/-- Behind a store of a cloned vote among those known. -/
theorem LeaR.putK {D : Nat → Prop} {w wm w2 : World} {b0 bk N B : Nat} {lo : Option Nat} {A : LS} {v : Vt} {sv : Value} {f : Lit → Option Value} (h : LeaR w D b0 (some bk) lo N A) (hB : w.heap.size ≤ B) (hb : Below w.heap.size w wm)
    (hown : wm.ownsRow B 5 1 sv v.val.length (u8s v.val)) (hm : MapR w2 Tryz.prog 39 bk (N + 1) (putF f (.int .u64 v.slot) (.agg #[.int .u64 v.slot, .int .u64 v.ballot, sv]))) (hg : wm.grownBy w2 (some bk))
    (hf : ∀ a : Int, U1 a → LvV w D (LR b0 (some bk) lo) (f (.int .u64 a)) (A.kn a)) (hx : ∀ kl, (f kl).isSome = true → ∃ a : Int, U1 a ∧ kl = .int .u64 a) (us : U1 v.slot) (ub : U1 v.ballot) (ux : U8 v.val) (lx : v.val.length ≤ 1000000) :
    LeaR w2 (fun k => D k ∨ (w.heap.size ≤ k ∧ k < w2.heap.size)) b0 (some bk) lo (N + 1) (knP A v) ∧ Keep (fun k => k = bk) w w2 := by
  have hkg : Keep (fun k => k = bk) wm w2 := Keep.grown hg (fun k hk => by cases hk; rfl)
  have hk : Keep (fun k => k = bk) w w2 := (Below.keep0 _ hb).trans hkg
  have hlt := LR_lt h
  have hbk := hlt bk (Or.inr (Or.inl rfl))
  have hne := h.ne.1 bk rfl
  refine ⟨⟨(hk.block b0 (hlt b0 (Or.inl rfl)) (fun e => hne e.symm)).trans h.cells, fun k hd => ?_, fun k hr => Or.inl (h.dr k hr), h.ne, ⟨fun b e => ?_, by simp, fun a x hx' => ?_⟩,
    h.op.keep hk (fun k hs _ => by subst hs; exact Or.inr (Or.inl rfl)) (fun b e hs => by subst hs; exact h.ne.2.2 b rfl e) (fun k hd => Or.inl hd) (fun _ _ h => h) (Nat.le_succ _), h.many, h.num, h.live⟩, hk⟩
  · rcases hd with hd | hd
    · exact Nat.lt_of_lt_of_le (h.lt k hd) hk.size
    · exact hd.2
  · cases e
    refine ⟨_, hm, fun a ha => ?_, fun kl hkl => ?_⟩
    · rw [putF_int]
      unfold knP
      simp only
      by_cases e : a = v.slot
      · rw [if_pos e, if_pos e]
        refine ⟨sv, rfl, (SlR.of_own hown).keep hkg (fun k hk' hs => ?_), fun k hk' => ?_⟩
        · have := (hown.lt k hk').1
          omega
        · have h1 := hown.lt k hk'
          have := hkg.size
          exact ⟨Or.inr ⟨by omega, by omega⟩, fun hr => by have := hlt k hr; omega⟩
      · rw [if_neg e, if_neg e]
        exact (hf a ha).keep hk (fun k hs _ => by subst hs; exact Or.inr (Or.inl rfl)) (fun k hd => Or.inl hd) (fun _ _ h => h)
    · unfold putF at hkl
      by_cases e : kl = .int .u64 v.slot
      · exact ⟨v.slot, us, e⟩
      · rw [if_neg e] at hkl; exact hx kl hkl
  · unfold knP at hx'
    simp only at hx'
    by_cases e : a = v.slot
    · rw [if_pos e] at hx'; cases hx'
      subst e
      exact ⟨us, rfl, ub, ux, lx⟩
    · rw [if_neg e] at hx'; exact h.kn.small a x hx'
/-- Behind a store of a proposal, whose bytes are its own already, or of nobody, or new. -/
theorem LeaR.putO {D : Nat → Prop} {w wm w2 : World} {b0 bl N : Nat} {ko : Option Nat} {A : LS} {v : Vt} {g : Nat → Bool} {sv : Value} {f : Lit → Option Value} (h : LeaR w D b0 ko (some bl) N A) (hb : Below w.heap.size w wm)
    (hsl : SlR wm sv (u8s v.val)) (hso : ∀ k, sv.ownBlock = some k → (D k ∧ ¬ LR b0 ko (some bl) k) ∨ (w.heap.size ≤ k ∧ k < wm.heap.size)) (hm : MapR w2 Tryz.prog 39 bl (N + 1) (putF f (.int .u64 v.slot) (.agg #[.int .u64 v.slot, .int .u64 v.ballot, sv, .int .u32 (msk 32 g)]))) (hg : wm.grownBy w2 (some bl))
    (hf : ∀ a : Int, U1 a → OpV w D (LR b0 ko (some bl)) (f (.int .u64 a)) (A.op a)) (hx : ∀ kl, (f kl).isSome = true → ∃ a : Int, U1 a ∧ kl = .int .u64 a) (us : U1 v.slot) (ub : U1 v.ballot) (ux : U8 v.val) (lx : v.val.length ≤ 1000000) :
    LeaR w2 (fun k => D k ∨ (w.heap.size ≤ k ∧ k < w2.heap.size)) b0 ko (some bl) (N + 1) (opP A v g) ∧ Keep (fun k => k = bl) w w2 := by
  have hkg : Keep (fun k => k = bl) wm w2 := Keep.grown hg (fun k hk => by cases hk; rfl)
  have hk : Keep (fun k => k = bl) w w2 := (Below.keep0 _ hb).trans hkg
  have hlt := LR_lt h
  have hbl := hlt bl (Or.inr (Or.inr rfl))
  have hne := h.ne.2.1 bl rfl
  refine ⟨⟨(hk.block b0 (hlt b0 (Or.inl rfl)) (fun e => hne e.symm)).trans h.cells, fun k hd => ?_, fun k hr => Or.inl (h.dr k hr), h.ne,
    h.kn.keep hk (fun k hs _ => by subst hs; exact Or.inr (Or.inr rfl)) (fun b e hs => by subst hs; exact h.ne.2.2 b e rfl) (fun k hd => Or.inl hd) (fun _ _ h => h) (Nat.le_succ _), ⟨fun b e => ?_, by simp, fun a x hx' => ?_⟩, h.many, h.num, h.live⟩, hk⟩
  · rcases hd with hd | hd
    · exact Nat.lt_of_lt_of_le (h.lt k hd) hk.size
    · exact hd.2
  · cases e
    refine ⟨_, hm, fun a ha => ?_, fun kl hkl => ?_⟩
    · rw [putF_int]
      unfold opP
      simp only
      by_cases e : a = v.slot
      · rw [if_pos e, if_pos e]
        refine ⟨sv, rfl, hsl.keep hkg (fun k hk' hs => ?_), fun k hk' => ?_⟩
        · subst hs
          rcases hso k hk' with h1 | h1
          · exact h1.2 (Or.inr (Or.inr rfl))
          · omega
        · have := hkg.size
          rcases hso k hk' with h1 | h1
          · exact ⟨Or.inl h1.1, h1.2⟩
          · exact ⟨Or.inr ⟨h1.1, by omega⟩, fun hr => by have := hlt k hr; omega⟩
      · rw [if_neg e, if_neg e]
        exact (hf a ha).keep hk (fun k hs _ => by subst hs; exact Or.inr (Or.inr rfl)) (fun k hd => Or.inl hd) (fun _ _ h => h)
    · unfold putF at hkl
      by_cases e : kl = .int .u64 v.slot
      · exact ⟨v.slot, us, e⟩
      · rw [if_neg e] at hkl; exact hx kl hkl
  · unfold opP at hx'
    simp only at hx'
    by_cases e : a = v.slot
    · rw [if_pos e] at hx'; cases hx'
      subst e
      exact ⟨us, rfl, ub, ux, lx⟩
    · rw [if_neg e] at hx'; exact h.op.small a x hx'
theorem LeaR.delO {D : Nat → Prop} {w w2 : World} {b0 bl N : Nat} {ko : Option Nat} {A : LS} {s : Int} {f : Lit → Option Value} (h : LeaR w D b0 ko (some bl) N A) (hm : MapR w2 Tryz.prog 39 bl N (delF f (.int .u64 s))) (hg : w.grownBy w2 (some bl))
    (hf : ∀ a : Int, U1 a → OpV w D (LR b0 ko (some bl)) (f (.int .u64 a)) (A.op a)) (hx : ∀ kl, (f kl).isSome = true → ∃ a : Int, U1 a ∧ kl = .int .u64 a) :
    LeaR w2 D b0 ko (some bl) N (opD A s) ∧ Keep (fun k => k = bl) w w2 := by
  have hk : Keep (fun k => k = bl) w w2 := Keep.grown hg (fun k hk => by cases hk; rfl)
  have hlt := LR_lt h
  have hne := h.ne.2.1 bl rfl
  refine ⟨⟨(hk.block b0 (hlt b0 (Or.inl rfl)) (fun e => hne e.symm)).trans h.cells, fun k hd => Nat.lt_of_lt_of_le (h.lt k hd) hk.size, h.dr, h.ne,
    h.kn.keep hk (fun k hs _ => by subst hs; exact Or.inr (Or.inr rfl)) (fun b e hs => by subst hs; exact h.ne.2.2 b e rfl) (fun k hd => hd) (fun _ _ h => h) (Nat.le_refl _), ⟨fun b e => ?_, by simp, fun a x hx' => ?_⟩, h.many, h.num, h.live⟩, hk⟩
  · cases e
    refine ⟨_, hm, fun a ha => ?_, fun kl hkl => ?_⟩
    · rw [delF_int]
      unfold opD
      simp only
      by_cases e : a = s
      · rw [if_pos e, if_pos e]; rfl
      · rw [if_neg e, if_neg e]
        exact (hf a ha).keep hk (fun k hs _ => by subst hs; exact Or.inr (Or.inr rfl)) (fun k hd => hd) (fun _ _ h => h)
    · unfold delF at hkl
      by_cases e : kl = .int .u64 s
      · rw [if_pos e] at hkl; cases hkl
      · rw [if_neg e] at hkl; exact hx kl hkl
  · unfold opD at hx'
    simp only at hx'
    by_cases e : a = s
    · rw [if_pos e] at hx'; cases hx'
    · rw [if_neg e] at hx'; exact h.op.small a x hx'
end Go.Proofs.YtgmdedkingampaaGreat

namespace Go.Proofs.YtgmdedkingampaaGreat
open Go.ChangeShapes Go.WideShapes Go.ChangeAt Go.RowKit Go.Maps
set_option maxRecDepth 100000

def kOr (A : LS) (slot : Int) : Vt := (A.kn slot).getD ⟨0, 0, []⟩
def oOr (A : LS) (slot : Int) : Vt × (Nat → Bool) := (A.op slot).getD (⟨0, 0, []⟩, fun _ => false)
theorem kOr_some {A : LS} {slot : Int} {v : Vt} (h : A.kn slot = some v) : kOr A slot = v := by unfold kOr; rw [h]; rfl
theorem oOr_some {A : LS} {slot : Int} {v : Vt × (Nat → Bool)} (h : A.op slot = some v) : oOr A slot = v := by unfold oOr; rw [h]; rfl
theorem LeaR.lookK {D : Nat → Prop} {w : World} {b0 bk N : Nat} {lo : Option Nat} {A : LS} (h : LeaR w D b0 (some bk) lo N A) {slot : Int} (us : U1 slot) : ∃ ao c,
    (∀ w' : World, w'.heap[bk]? = w.heap[bk]? → (Instr.lookup 123 (.map (some bk)) (.int .u64 slot) true).run Tryz.prog w' = .ok (.tuple #[.agg #[.int .u64 (kOr A slot).slot, .int .u64 (kOr A slot).ballot, .slice ao (kOr A slot).val.length c], .bool (A.kn slot).isSome]) w') ∧
    (∀ w' : World, w'.heap[bk]? = w.heap[bk]? → (Instr.lookup 123 (.map (some bk)) (.int .u64 slot) false).run Tryz.prog w' = .ok (.agg #[.int .u64 (kOr A slot).slot, .int .u64 (kOr A slot).ballot, .slice ao (kOr A slot).val.length c]) w') ∧
    SlR w (.slice ao (kOr A slot).val.length c) (u8s (kOr A slot).val) ∧ (kOr A slot).val.length ≤ 1000000 ∧ U8 (kOr A slot).val ∧ U1 (kOr A slot).ballot ∧ (∀ k, (Value.slice ao (kOr A slot).val.length c).ownBlock = some k → D k ∧ ¬ LR b0 (some bk) lo k) ∧ (kOr A slot).val.length ≤ c ∧ c ≤ 9223372036854775807 := by
  obtain ⟨f, hf, hv, hx⟩ := h.kn.some_ bk rfl
  have hval := hv slot us
  have h1 := fun (w' : World) (hw : w'.heap[bk]? = w.heap[bk]?) => (hf.same hw).look_ok uKeyed Tryz.underlying123 (zeroVote w') (u_key us)
  have h2 := fun (w' : World) (hw : w'.heap[bk]? = w.heap[bk]?) => (hf.same hw).look uKeyed Tryz.underlying123 (zeroVote w') (u_key us)
  cases hl : A.kn slot with
  | none =>
    rw [hl] at hval
    have hval : f (.int .u64 slot) = none := hval
    rw [hval] at h1 h2
    have e : kOr A slot = ⟨0, 0, []⟩ := by unfold kOr; rw [hl]; rfl
    rw [e]
    exact ⟨none, 0, h1, h2, SlR.nil w, by simp, (by intro y hy; cases hy), ⟨by decide, by decide⟩, (by intro k hk; cases hk), by simp, by omega⟩
  | some v =>
    rw [hl] at hval
    obtain ⟨sv, e1, e2, e3⟩ := hval
    obtain ⟨hs1, hs2, hs3, hs4, hs5⟩ := h.kn.small slot v hl
    rw [e1] at h1 h2
    obtain ⟨ao, c, rfl, g1, g2⟩ := e2.form
    simp only [List.length_map] at e2 g1 h1 h2 e3
    have e : kOr A slot = v := kOr_some hl
    rw [e]
    exact ⟨ao, c, h1, h2, e2, hs5, hs4, hs3, e3, g1, g2⟩
theorem LeaR.lookO {D : Nat → Prop} {w : World} {b0 bl N : Nat} {ko : Option Nat} {A : LS} (h : LeaR w D b0 ko (some bl) N A) {slot : Int} (us : U1 slot) : ∃ ao c,
    (∀ w' : World, w'.heap[bl]? = w.heap[bl]? → (Instr.lookup 124 (.map (some bl)) (.int .u64 slot) true).run Tryz.prog w' = .ok (.tuple #[.agg #[.int .u64 (oOr A slot).1.slot, .int .u64 (oOr A slot).1.ballot, .slice ao (oOr A slot).1.val.length c, .int .u32 (msk 32 (oOr A slot).2)], .bool (A.op slot).isSome]) w') ∧
    (∀ w' : World, w'.heap[bl]? = w.heap[bl]? → (Instr.lookup 124 (.map (some bl)) (.int .u64 slot) false).run Tryz.prog w' = .ok (.agg #[.int .u64 (oOr A slot).1.slot, .int .u64 (oOr A slot).1.ballot, .slice ao (oOr A slot).1.val.length c, .int .u32 (msk 32 (oOr A slot).2)]) w') ∧
    SlR w (.slice ao (oOr A slot).1.val.length c) (u8s (oOr A slot).1.val) ∧ (oOr A slot).1.val.length ≤ 1000000 ∧ U8 (oOr A slot).1.val ∧ U1 (oOr A slot).1.ballot ∧ (∀ k, (Value.slice ao (oOr A slot).1.val.length c).ownBlock = some k → D k ∧ ¬ LR b0 ko (some bl) k) ∧ (oOr A slot).1.val.length ≤ c ∧ c ≤ 9223372036854775807 := by
  obtain ⟨f, hf, hv, hx⟩ := h.op.some_ bl rfl
  have hval := hv slot us
  have h1 := fun (w' : World) (hw : w'.heap[bl]? = w.heap[bl]?) => (hf.same hw).look_ok uKeyed Tryz.underlying124 (zeroOpen w') (u_key us)
  have h2 := fun (w' : World) (hw : w'.heap[bl]? = w.heap[bl]?) => (hf.same hw).look uKeyed Tryz.underlying124 (zeroOpen w') (u_key us)
  cases hl : A.op slot with
  | none =>
    rw [hl] at hval
    have hval : f (.int .u64 slot) = none := hval
    rw [hval] at h1 h2
    have e : oOr A slot = (⟨0, 0, []⟩, fun _ => false) := by unfold oOr; rw [hl]; rfl
    rw [e]
    simp only [msk_none]
    exact ⟨none, 0, h1, h2, SlR.nil w, by simp, (by intro y hy; cases hy), ⟨by decide, by decide⟩, (by intro k hk; cases hk), by simp, by omega⟩
  | some q =>
    obtain ⟨v, g⟩ := q
    rw [hl] at hval
    obtain ⟨sv, e1, e2, e3⟩ := hval
    obtain ⟨hs1, hs2, hs3, hs4, hs5⟩ := h.op.small slot (v, g) hl
    simp only at hs2 hs3 hs4 hs5
    rw [e1] at h1 h2
    obtain ⟨ao, c, rfl, g1, g2⟩ := e2.form
    simp only [List.length_map] at e2 g1 h1 h2 e3
    have e : oOr A slot = (v, g) := oOr_some hl
    rw [e]
    exact ⟨ao, c, h1, h2, e2, hs5, hs4, hs3, e3, g1, g2⟩
end Go.Proofs.YtgmdedkingampaaGreat

namespace Go.Proofs.YtgmdedkingampaaGreat
open Go.ChangeShapes Go.WideShapes Go.ChangeAt Go.RowKit Go.Maps
set_option maxRecDepth 100000

theorem lpropose_state {D : Nat → Prop} {w : World} {b0 N : Nat} {ko lo : Option Nat} {A : LS} (h : LeaR w D b0 ko lo N A) {sv : Value} (hst : A.stage ≠ 2) :
    Calls Tryz.prog 27 #[.pointer (some ⟨b0, 0, none⟩), sv] w fun e w' => e = .returned (.tuple #[.agg #[.int .u64 0, .int .u64 0, .slice none 0 0], .int .i64 33]) ∧ Below w.heap.size w w' := by
  have hb1 := (Below.refl w.heap.size w).alloc (Nat.le_refl _) (.cells #[.int .u64 0, .int .u64 0, .slice none 0 0] 80)
  obtain ⟨⟨c0, c1, _⟩, _⟩ := (h.below hb1 (Nat.le_refl _)).cell
  have hb : (A.stage != 2) = true := by simp [hst]
  clear h hst
  go_enter Tryz.func27, Tryz.ntmps27
  go_wp2
  have hk := heap_alloc_new w (.cells #[.int .u64 0, .int .u64 0, .slice none 0 0] 80)
  obtain ⟨W4, HW4⟩ : ∃ x, x = w.alloc (.cells #[.int .u64 0, .int .u64 0, .slice none 0 0] 80) := ⟨_, rfl⟩
  rw [← HW4] at hk hb1 ⊢
  have s0 : W4.cell? ⟨w.heap.size, 0, none⟩ = some (.int .u64 0) := World.news_of_block hk 0 _ rfl
  have s1 : W4.cell? ⟨w.heap.size, 1, none⟩ = some (.int .u64 0) := World.news_of_block hk 1 _ rfl
  have s2 : W4.cell? ⟨w.heap.size, 2, none⟩ = some (.slice none 0 0) := World.news_of_block hk 2 _ rfl
  refine bodyPost_ret (v := .tuple #[.agg #[.int .u64 0, .int .u64 0, .slice none 0 0], .int .i64 33]) (by simp [results, Tryz.results27, go_sem, s0, s1, s2]) rfl ?_
  exact ⟨rfl, hb1⟩
theorem lpropose_worn {D : Nat → Prop} {w : World} {b0 N : Nat} {ko lo : Option Nat} {A : LS} (h : LeaR w D b0 ko lo N A) {sv : Value} (hst : A.stage = 2) (hw : A.next = 18446744073709551615) :
    Calls Tryz.prog 27 #[.pointer (some ⟨b0, 0, none⟩), sv] w fun e w' => e = .returned (.tuple #[.agg #[.int .u64 0, .int .u64 0, .slice none 0 0], .int .i64 37]) ∧ Below w.heap.size w w' := by
  have hb1 := (Below.refl w.heap.size w).alloc (Nat.le_refl _) (.cells #[.int .u64 0, .int .u64 0, .slice none 0 0] 80)
  obtain ⟨⟨c0, c1, c2, c3, c4, _⟩, _⟩ := (h.below hb1 (Nat.le_refl _)).cell
  have hb : (A.stage != 2) = false := by simp [hst]
  have hn : (A.next == 18446744073709551615) = true := by rw [beq_iff_eq]; exact hw
  clear h hst hw
  go_enter Tryz.func27, Tryz.ntmps27
  go_wp2
  have hk := heap_alloc_new w (.cells #[.int .u64 0, .int .u64 0, .slice none 0 0] 80)
  obtain ⟨W4, HW4⟩ : ∃ x, x = w.alloc (.cells #[.int .u64 0, .int .u64 0, .slice none 0 0] 80) := ⟨_, rfl⟩
  rw [← HW4] at hk hb1 ⊢
  have s0 : W4.cell? ⟨w.heap.size, 0, none⟩ = some (.int .u64 0) := World.news_of_block hk 0 _ rfl
  have s1 : W4.cell? ⟨w.heap.size, 1, none⟩ = some (.int .u64 0) := World.news_of_block hk 1 _ rfl
  have s2 : W4.cell? ⟨w.heap.size, 2, none⟩ = some (.slice none 0 0) := World.news_of_block hk 2 _ rfl
  refine bodyPost_ret (v := .tuple #[.agg #[.int .u64 0, .int .u64 0, .slice none 0 0], .int .i64 37]) (by simp [results, Tryz.results27, go_sem, s0, s1, s2]) rfl ?_
  exact ⟨rfl, hb1⟩
end Go.Proofs.YtgmdedkingampaaGreat

namespace Go.Proofs.YtgmdedkingampaaGreat
open Go.ChangeShapes Go.WideShapes Go.ChangeAt Go.RowKit Go.Maps
set_option maxRecDepth 100000

def nextL (A : LS) : LS := ⟨A.many, A.stage, A.ballot, A.first, A.next + 1, A.prom, A.kn, A.op⟩
/-- A vote with memory of its own; the leader behind it. -/
def RetPp (D : Nat → Prop) (b0 N : Nat) (ko lo : Option Nat) (A' : LS) (v : Vt) (w : World) (e : Ending) (w' : World) : Prop :=
  ∃ ao c D' base, e = .returned (.tuple #[.agg #[.int .u64 v.slot, .int .u64 v.ballot, .slice ao v.val.length c], .int .i64 0]) ∧ w'.ownsRow base 5 1 (.slice ao v.val.length c) v.val.length (u8s v.val) ∧ w.heap.size ≤ base ∧ (∀ k, D' k → k < base) ∧
    LeaR w' D' b0 ko lo N A' ∧ Moved D D' w w'
/-- Behind the clone: the new vote lies in a block of its own. -/
def PpMid (w : World) (A : LS) (xs : List Int) (s6 : Value) (wx : World) : Prop :=
  ∃ XB ko3 kc3, s6 = .pointer (some ⟨XB, 0, none⟩) ∧ Below w.heap.size w wx ∧ wx.heap[XB]? = some (.cells #[.int .u64 A.next, .int .u64 A.ballot, .slice ko3 xs.length kc3] 80 (0, 0)) ∧ wx.heap[w.heap.size]? = some (.cells #[.int .u64 0, .int .u64 0, .slice none 0 0] 80 (0, 0)) ∧
    wx.ownsRow (w.heap.size + 1) 5 1 (.slice ko3 xs.length kc3) xs.length (u8s xs) ∧ w.heap.size < XB ∧ ∀ k, (Value.slice ko3 xs.length kc3).ownBlock = some k → k ≠ XB
theorem PpMid.behind {w w3 : World} {A : LS} {xs : List Int} {ko3 : Option Addr} {kc3 : Nat} (hb : Below (w.heap.size + 1) (w.alloc (.cells #[.int .u64 0, .int .u64 0, .slice none 0 0] 80)) w3) (ho : w3.ownsRow (w.heap.size + 1) 5 1 (.slice ko3 xs.length kc3) xs.length (u8s xs)) :
    PpMid w A xs (.pointer (some ⟨w3.heap.size, 0, none⟩)) (w3.alloc (.cells #[.int .u64 A.next, .int .u64 A.ballot, .slice ko3 xs.length kc3] 80)) := by
  have hz : (w.alloc (.cells #[.int .u64 0, .int .u64 0, .slice none 0 0] 80)).heap.size = w.heap.size + 1 := by simp
  have hs := hb.size
  have hb1 : Below w.heap.size w w3 := ((Below.refl _ _).alloc (Nat.le_refl _) _).trans (hb.mono (by omega))
  refine ⟨_, ko3, kc3, rfl, hb1.alloc (by omega) _, heap_alloc_new w3 _, ?_, ho.alloc _, by omega, fun k hk => by have := (ho.lt k hk).2; omega⟩
  exact (Below.heap_alloc _ _ _ (by omega)).trans ((hb.block w.heap.size (by omega)).trans (heap_alloc_new w _))
theorem PpMid.ahead {w w3 : World} {A : LS} {xs : List Int} {ko3 : Option Addr} {kc3 : Nat} (hb : Below (w.heap.size + 2) ((w.alloc (.cells #[.int .u64 0, .int .u64 0, .slice none 0 0] 80)).alloc (.cells #[.int .u64 0, .int .u64 0, .slice none 0 0] 80)) w3) (ho : w3.ownsRow (w.heap.size + 2) 5 1 (.slice ko3 xs.length kc3) xs.length (u8s xs)) :
    PpMid w A xs (.pointer (some ⟨w.heap.size + 1, 0, none⟩)) (((w3.setCell ⟨w.heap.size + 1, 0, none⟩ (.int .u64 A.next)).setCell ⟨w.heap.size + 1, 1, none⟩ (.int .u64 A.ballot)).setCell ⟨w.heap.size + 1, 2, none⟩ (.slice ko3 xs.length kc3)) := by
  have hz1 : (w.alloc (.cells #[.int .u64 0, .int .u64 0, .slice none 0 0] 80)).heap.size = w.heap.size + 1 := by simp
  have hz : ((w.alloc (.cells #[.int .u64 0, .int .u64 0, .slice none 0 0] 80)).alloc (.cells #[.int .u64 0, .int .u64 0, .slice none 0 0] 80)).heap.size = w.heap.size + 2 := by simp
  have hs := hb.size
  have hb1 : Below w.heap.size w w3 := (((Below.refl _ _).alloc (Nat.le_refl _) _).alloc (by simp) _).trans (hb.mono (by omega))
  have hkx0 := heap_alloc_new (w.alloc (.cells #[.int .u64 0, .int .u64 0, .slice none 0 0] 80)) (.cells #[.int .u64 0, .int .u64 0, .slice none 0 0] 80)
  rw [hz1] at hkx0
  have e0 := (hb.block (w.heap.size + 1) (by omega)).trans hkx0
  have e1 := heap_setCell_same _ (w.heap.size + 1) 0 _ _ (.int .u64 A.next) e0
  have e2 := heap_setCell_same _ (w.heap.size + 1) 1 _ _ (.int .u64 A.ballot) e1
  have e3 := heap_setCell_same _ (w.heap.size + 1) 2 _ _ (.slice ko3 xs.length kc3) e2
  have hne : ∀ k, (Value.slice ko3 xs.length kc3).ownBlock = some k → k ≠ w.heap.size + 1 := fun k hk => by have := (ho.lt k hk).1; omega
  have hk : Keep (fun k => k = w.heap.size + 1) w3 (((w3.setCell ⟨w.heap.size + 1, 0, none⟩ (.int .u64 A.next)).setCell ⟨w.heap.size + 1, 1, none⟩ (.int .u64 A.ballot)).setCell ⟨w.heap.size + 1, 2, none⟩ (.slice ko3 xs.length kc3)) :=
    (((Keep.refl (fun k => k = w.heap.size + 1) w3).setCell (p := ⟨w.heap.size + 1, 0, none⟩) (Or.inl rfl) _).setCell (p := ⟨w.heap.size + 1, 1, none⟩) (Or.inl rfl) _).setCell (p := ⟨w.heap.size + 1, 2, none⟩) (Or.inl rfl) _
  refine ⟨_, ko3, kc3, rfl, hb1.trans (hk.below (by omega) (fun k e => by omega)), by simpa using e3, ?_, (own_keepS hk ho hne).weaken (by omega), by omega, hne⟩
  exact (hk.block w.heap.size (by omega) (by omega)).trans ((hb.block w.heap.size (by omega)).trans ((Below.heap_alloc _ _ _ (by omega)).trans (heap_alloc_new w _)))
set_option maxHeartbeats 2000000 in
theorem lpropose_ok {D : Nat → Prop} {w : World} {b0 bl N : Nat} {ko : Option Nat} {A : LS} (h : LeaR w D b0 ko (some bl) N A) {sv : Value} {xs : List Int} (hs : SlR w sv (u8s xs)) (h8 : U8 xs) (hl : xs.length ≤ 1000000) (hst : A.stage = 2) (hw : A.next ≠ 18446744073709551615) (hN : N < 1000000) :
    Calls Tryz.prog 27 #[.pointer (some ⟨b0, 0, none⟩), sv] w (RetPp D b0 (N + 1) ko (some bl) (nextL (opP A ⟨A.next, A.ballot, xs⟩ (fun _ => false))) ⟨A.next, A.ballot, xs⟩ w) := by
  obtain ⟨so, sc, rfl, hsc1, hsc2⟩ := hs.form
  simp only [List.length_map] at hs hsc1 ⊢
  have hb1 := (Below.refl w.heap.size w).alloc (Nat.le_refl _) (.cells #[.int .u64 0, .int .u64 0, .slice none 0 0] 80)
  have hR1 := h.below hb1 (Nat.le_refl _)
  obtain ⟨⟨c0, c1, c2, c3, c4, c5, c6, c7⟩, _⟩ := hR1.cell
  have hb : (A.stage != 2) = false := by simp [hst]
  have hn : (A.next == 18446744073709551615) = false := by rw [beq_eq_false_iff_ne]; exact hw
  have HC := fun w' (hb' : Below w.heap.size w w') => Lib.hid (cloneB_any (hs.below hb' (Nat.le_refl _)) (by omega))
  have HC := Lib.hid HC
  have H := Lib.hid h
  have HB1 := Lib.hid hb1
  have hb2 := hb1.alloc (by simp) (.cells #[.int .u64 0, .int .u64 0, .slice none 0 0] 80)
  have HB2 := Lib.hid hb2
  have hkx0 := heap_alloc_new (w.alloc (.cells #[.int .u64 0, .int .u64 0, .slice none 0 0] 80)) (.cells #[.int .u64 0, .int .u64 0, .slice none 0 0] 80)
  rw [show (w.alloc (.cells #[.int .u64 0, .int .u64 0, .slice none 0 0] 80)).heap.size = w.heap.size + 1 by simp] at hkx0
  have HKx := Lib.hid hkx0
  have hb0 := LR_lt h b0 (Or.inl rfl)
  have hbn : ¬ (w.heap.size + 1 = b0) := by omega
  have hbn2 : ¬ (b0 = w.heap.size + 1) := by omega
  have hbn3 : ¬ (b0 = w.heap.size) := by omega
  have HWn := Lib.hid hw
  clear h hs hst hw hR1 hb2 hkx0
  go_enter Tryz.func27, Tryz.ntmps27
  go_upto_region 7 with fail
  go_cut [6] (fun s6 wx => PpMid w A xs s6 wx)
  case first =>
    go_region_held3 (fun w' => w'.cell? ⟨b0, 4, none⟩ = some (.int .u64 A.next) ∧ w'.cell? ⟨b0, 2, none⟩ = some (.int .u64 A.ballot)) (first | go_keep)
      (first
        | (go_at_call 68; (with_reducible refine (HC.out _ HB1.out.drew).out.mono ?_); rintro e w3 ⟨v3, rfl, hown3, hb3⟩
           obtain ⟨ko3, kc3, rfl, _, _⟩ := own_form hown3
           have HB3 := Lib.hid (HB1.out.drew.trans (hb3.mono (by simp)))
           obtain ⟨⟨_, _, e2, _, e4, _⟩, _⟩ := (H.out.below HB3.out (Nat.le_refl _)).cell
           have HO3 := Lib.hid hown3
           have HBr := Lib.hid hb3
           clear hown3 hb3)
        | (go_at_call 68; (with_reducible refine (HC.out _ HB2.out.drew).out.mono ?_); rintro e w3 ⟨v3, rfl, hown3, hb3⟩
           obtain ⟨ko3, kc3, rfl, _, _⟩ := own_form hown3
           have hkx := (hb3.block (w.heap.size + 1) (by simp)).trans HKx.out
           have x0 : w3.cell? ⟨w.heap.size + 1, 0, none⟩ = some (.int .u64 0) := World.news_of_block hkx 0 _ rfl
           have x1 : w3.cell? ⟨w.heap.size + 1, 1, none⟩ = some (.int .u64 0) := World.news_of_block hkx 1 _ rfl
           have x2 : w3.cell? ⟨w.heap.size + 1, 2, none⟩ = some (.slice none 0 0) := World.news_of_block hkx 2 _ rfl
           have z0 : w3.frozen? ⟨w.heap.size + 1, 0, none⟩ = false := by simp [World.frozen?, hkx]
           have z1 : w3.frozen? ⟨w.heap.size + 1, 1, none⟩ = false := by simp [World.frozen?, hkx]
           have z2 : w3.frozen? ⟨w.heap.size + 1, 2, none⟩ = false := by simp [World.frozen?, hkx]
           have HB3 := Lib.hid (HB2.out.drew.trans (hb3.mono (by simp; omega)))
           obtain ⟨⟨_, _, e2, _, e4, _⟩, _⟩ := (H.out.below HB3.out (Nat.le_refl _)).cell
           have HO3 := Lib.hid hown3
           have HBr := Lib.hid hb3
           clear hown3 hb3))
    all_goals (go_wp2_with fail; go_meet; first | exact PpMid.behind (Below.trans (Below.drew (Below.refl _ _)) (HBr.out.mono (by simp))) (HO3.out.weaken (by simp)) | exact PpMid.ahead (Below.trans (Below.drew (Below.refl _ _)) (HBr.out.mono (by simp))) (HO3.out.weaken (by simp)))
  case rest =>
    obtain ⟨XB, ko3, kc3, rfl, hbx, hxb, hres, hown, hlt, hne⟩ := hcut
    have HX := Lib.hid hxb
    have HRs := Lib.hid hres
    have HOw := Lib.hid hown
    have HBx := Lib.hid hbx
    have HNe := Lib.hid hne
    obtain ⟨f, hf, hv, hx⟩ := H.out.op.some_ bl rfl
    have us := H.out.num.2.2
    have ub := H.out.num.1
    have hblk : wc.drew.heap[bl]? = w.heap[bl]? := hbx.block bl hf.lt
    obtain ⟨w2, hrun, hm2, hg2⟩ := (hf.same hblk).store uKeyed Tryz.underlying124 (by unfold maxLen; omega) (u_key us) (val := .agg #[.int .u64 A.next, .int .u64 A.ballot, .slice ko3 xs.length kc3, .int .u32 0]) (by trivial)
    have hXs : XB < wc.heap.size := (Array.getElem?_eq_some_iff.1 hxb).1
    have hlt2 := LR_lt H.out bl (Or.inr (Or.inr rfl))
    have hcT : ∀ wm : World, Below wc.heap.size wc wm → (wm.cell? ⟨b0, 7, none⟩ = some (.map (some bl)) ∧ wm.cell? ⟨b0, 4, none⟩ = some (.int .u64 A.next)) ∧ wm.cell? ⟨XB, 0, none⟩ = some (.int .u64 A.next) ∧ wm.cell? ⟨XB, 1, none⟩ = some (.int .u64 A.ballot) ∧ wm.cell? ⟨XB, 2, none⟩ = some (.slice ko3 xs.length kc3) := by
      intro wm hbm
      obtain ⟨⟨_, _, _, _, e4, _, _, e7⟩, _⟩ := (H.out.below (HBx.out.trans (hbm.mono HBx.out.size)) (Nat.le_refl _)).cell
      have hxm := (hbm.block XB hXs).trans HX.out
      exact ⟨⟨e7, e4⟩, World.news_of_block hxm 0 _ rfl, World.news_of_block hxm 1 _ rfl, World.news_of_block hxm 2 _ rfl⟩
    have hne0 := H.out.ne.2.1 bl rfl
    obtain ⟨⟨r7, r4⟩, r0, r1, r2⟩ := hcT wc.drew (Below.refl _ _).drew
    have q7 := hg2.cell r7 (by simp; omega)
    have q4 := hg2.cell r4 (by simp; omega)
    have q0 := hg2.cell r0 (by simp; omega)
    have q1 := hg2.cell r1 (by simp; omega)
    have q2 := hg2.cell r2 (by simp; omega)
    have HM2 := Lib.hid hm2
    have HG2 := Lib.hid hg2
    have HF := Lib.hid hv
    have HXx := Lib.hid hx
    clear hxb hres hown hbx hne hf hv hx hblk hm2 hg2 hcT
    go_wp2_with fail
    go_region_held3 (fun w' => w'.cell? ⟨b0, 7, none⟩ = some (.map (some bl)) ∧ w'.cell? ⟨b0, 4, none⟩ = some (.int .u64 A.next) ∧ w'.cell? ⟨XB, 0, none⟩ = some (.int .u64 A.next) ∧ w'.cell? ⟨XB, 1, none⟩ = some (.int .u64 A.ballot) ∧ w'.cell? ⟨XB, 2, none⟩ = some (.slice ko3 xs.length kc3)) (first | go_keep)
      (first | fail)
    clear r7 r4 r0 r1 r2 q7 hrun
    have hso : ∀ k, (Value.slice ko3 xs.length kc3).ownBlock = some k → (D k ∧ ¬ LR b0 ko (some bl) k) ∨ ((w.alloc (.cells #[.int .u64 0, .int .u64 0, .slice none 0 0] 80)).heap.size ≤ k ∧ k < wc.drew.heap.size) := fun k hk => Or.inr ⟨by have := (HOw.out.lt k hk).1; simp; omega, (HOw.out.lt k hk).2⟩
    have hbx1 : Below (w.alloc (.cells #[.int .u64 0, .int .u64 0, .slice none 0 0] 80)).heap.size (w.alloc (.cells #[.int .u64 0, .int .u64 0, .slice none 0 0] 80)) wc := by
      refine ⟨HBx.out.os, HBx.out.tape, HBx.out.output, by simp; omega, fun k hk => ?_⟩
      by_cases e : k = w.heap.size
      · subst e; exact HRs.out.trans (heap_alloc_new w _).symm
      · have hk2 : k < w.heap.size := by simp at hk; omega
        exact (HBx.out.block k hk2).trans (Below.heap_alloc _ _ _ hk2).symm
    obtain ⟨hA, hkA⟩ := (H.out.below HB1.out (Nat.le_refl _)).putO (wm := wc.drew) (v := ⟨A.next, A.ballot, xs⟩) (g := fun _ => false) hbx1.drew ((SlR.of_own HOw.out).below (Below.refl _ _).drew (Nat.le_refl _)) hso (by simpa [msk_none] using HM2.out) HG2.out (fun a ha => (HF.out a ha).keep (Below.keep0 (fun _ => False) HB1.out) (fun _ hk _ => hk.elim) (fun _ h => h) (fun _ _ h => h)) HXx.out us ub h8 hl
    have HA := Lib.hid hA
    have HKA := Lib.hid hkA
    obtain ⟨⟨_, _, _, _, e4, _⟩, hz⟩ := hA.cell
    have z4 := hz 4
    have hwn : IntKind.u64.wrap (A.next + 1) = A.next + 1 := by
      have hnn := HWn.out
      obtain ⟨u1, u2⟩ := us
      exact IntWalk.u64_in _ (by constructor <;> omega)
    have hxb0 : ¬ (XB = b0) := by have := LR_lt H.out b0 (Or.inl rfl); omega
    have hb0x : ¬ (b0 = XB) := fun e => hxb0 e.symm
    clear hA hkA hz hso
    go_wp2_with fail
    have hk4 : Keep (fun k => k = b0) w2 (w2.setCell ⟨b0, 4, none⟩ (.int .u64 (A.next + 1))) := (Keep.refl (fun k => k = b0) w2).setCell (p := ⟨b0, 4, none⟩) (Or.inl rfl) _
    have hT := HA.out.turn (A' := nextL (opP A ⟨A.next, A.ballot, xs⟩ (fun _ => false))) hk4 (by simpa [nextL, opP] using heap_setCell_same w2 b0 4 _ _ (.int .u64 (A.next + 1)) HA.out.cells) rfl rfl HA.out.many ⟨ub, HA.out.num.2.1, by have hnn := HWn.out; obtain ⟨u1, u2⟩ := us; exact ⟨by show 0 ≤ A.next + 1; omega, by show A.next + 1 ≤ _; omega⟩⟩ (fun hs => hs)
    have HT := Lib.hid hT
    have hsl3 : SlR (w2.setCell ⟨b0, 4, none⟩ (.int .u64 (A.next + 1))) (.slice ko3 xs.length kc3) (u8s xs) := by
      have h1 := (SlR.of_own HOw.out).below (Below.refl _ _).drew (Nat.le_refl _)
      have h2 : SlR w2 (.slice ko3 xs.length kc3) (u8s xs) := h1.keep (Keep.grown (S := fun k => k = bl) HG2.out (fun k hk => by cases hk; rfl)) (fun k hk e => by subst e; have := (HOw.out.lt k hk).1; omega)
      exact h2.keep hk4 (fun k hk e => by subst e; have := (HOw.out.lt k hk).1; have := LR_lt H.out k (Or.inl rfl); omega)
    have hr3 : (w2.setCell ⟨b0, 4, none⟩ (.int .u64 (A.next + 1))).heap[w.heap.size]? = some (.cells #[.int .u64 0, .int .u64 0, .slice none 0 0] 80 (0, 0)) := by
      have hs0 : w.heap.size < wc.heap.size := by omega
      have h1 := (Keep.grown (S := fun k => k = bl) HG2.out (fun k hk => by cases hk; rfl)).block w.heap.size hs0 (by omega)
      have hsz2 := (Keep.grown (S := fun k => k = bl) HG2.out (fun k hk => by cases hk; rfl)).size
      exact (hk4.block w.heap.size (Nat.lt_of_lt_of_le hs0 hsz2) (by have := LR_lt H.out b0 (Or.inl rfl); omega)).trans (h1.trans HRs.out)
    have HR3 := Lib.hid hr3
    have HK4 := Lib.hid hk4
    have HC3 := Lib.hid (lcopied_any (v := ⟨A.next, A.ballot, xs⟩) hsl3 (by show xs.length ≤ 1000000000; omega))
    clear hk4 hT hsl3 hr3
    refine HC3.out.mono ?_
    rintro e w5 ⟨co, cc, rfl, hown5, hb5⟩
    have HO5 := Lib.hid hown5
    have HB5 := Lib.hid hb5
    have hs3 : w.heap.size < (w2.setCell ⟨b0, 4, none⟩ (.int .u64 (A.next + 1))).heap.size := (Array.getElem?_eq_some_iff.1 HR3.out).1
    have hr5 := (hb5.block w.heap.size hs3).trans HR3.out
    have x0 : w5.cell? ⟨w.heap.size, 0, none⟩ = some (.int .u64 0) := World.news_of_block hr5 0 _ rfl
    have x1 : w5.cell? ⟨w.heap.size, 1, none⟩ = some (.int .u64 0) := World.news_of_block hr5 1 _ rfl
    have x2 : w5.cell? ⟨w.heap.size, 2, none⟩ = some (.slice none 0 0) := World.news_of_block hr5 2 _ rfl
    have z0 : w5.frozen? ⟨w.heap.size, 0, none⟩ = false := by simp [World.frozen?, hr5]
    have z1 : w5.frozen? ⟨w.heap.size, 1, none⟩ = false := by simp [World.frozen?, hr5]
    have z2 : w5.frozen? ⟨w.heap.size, 2, none⟩ = false := by simp [World.frozen?, hr5]
    have HR5 := Lib.hid hr5
    clear hown5 hb5 hr5
    go_wp2_with fail
    have hs2 : w2.heap.size = (w2.setCell ⟨b0, 4, none⟩ (.int .u64 (A.next + 1))).heap.size := by simp
    have e1 := heap_setCell_same _ w.heap.size 0 _ _ (.int .u64 A.next) HR5.out
    have e2 := heap_setCell_same _ w.heap.size 1 _ _ (.int .u64 A.ballot) e1
    have e3 := heap_setCell_same _ w.heap.size 2 _ _ (.slice co xs.length cc) e2
    have hk6 : Keep (fun k => k = w.heap.size) w5 (((w5.setCell ⟨w.heap.size, 0, none⟩ (.int .u64 A.next)).setCell ⟨w.heap.size, 1, none⟩ (.int .u64 A.ballot)).setCell ⟨w.heap.size, 2, none⟩ (.slice co xs.length cc)) :=
      (((Keep.refl (fun k => k = w.heap.size) w5).setCell (p := ⟨w.heap.size, 0, none⟩) (Or.inl rfl) _).setCell (p := ⟨w.heap.size, 1, none⟩) (Or.inl rfl) _).setCell (p := ⟨w.heap.size, 2, none⟩) (Or.inl rfl) _
    generalize ((w5.setCell ⟨w.heap.size, 0, none⟩ (.int .u64 A.next)).setCell ⟨w.heap.size, 1, none⟩ (.int .u64 A.ballot)).setCell ⟨w.heap.size, 2, none⟩ (.slice co xs.length cc) = W6 at *
    have s0 : W6.cell? ⟨w.heap.size, 0, none⟩ = some (.int .u64 A.next) := World.news_of_block e3 0 _ rfl
    have s1 : W6.cell? ⟨w.heap.size, 1, none⟩ = some (.int .u64 A.ballot) := World.news_of_block e3 1 _ rfl
    have s2 : W6.cell? ⟨w.heap.size, 2, none⟩ = some (.slice co xs.length cc) := World.news_of_block e3 2 _ rfl
    refine bodyPost_ret (v := .tuple #[.agg #[.int .u64 A.next, .int .u64 A.ballot, .slice co xs.length cc], .int .i64 0]) (by simp [results, Tryz.results27, go_sem, s0, s1, s2]) rfl ?_
    have hz1 : (w.alloc (.cells #[.int .u64 0, .int .u64 0, .slice none 0 0] 80)).heap.size = w.heap.size + 1 := by simp
    have hDl : ∀ k, D k → k < w.heap.size := H.out.lt
    have hbl := H.out.dr bl (Or.inr (Or.inr rfl))
    have hbb := H.out.dr b0 (Or.inl rfl)
    have k1 : Keep (fun k => D k ∨ w.heap.size ≤ k) w W6 :=
      ((((Below.keep0 _ HB1.out).trans (HKA.out.mono (fun k _ e => by subst e; exact Or.inl hbl))).trans (HK4.out.mono (fun k _ e => by subst e; exact Or.inl hbb))).trans (Below.keep0 _ HB5.out)).trans (hk6.mono (fun k _ e => Or.inr (by omega)))
    refine ⟨co, cc, fun k => D k ∨ ((w.alloc (.cells #[.int .u64 0, .int .u64 0, .slice none 0 0] 80)).heap.size ≤ k ∧ k < w2.heap.size), _, rfl, own_keepS hk6 HO5.out (fun k hk e => by have := (HO5.out.lt k hk).1; omega), by omega, fun k hk => ?_,
      (HT.out.below HB5.out (Nat.le_refl _)).keep hk6 (fun k e hd => ?_), ⟨k1.mono (fun k hk hd => ?_), fun k hd => Or.inl hd, fun k hd => ?_⟩⟩
    · rcases hk with hk | hk
      · have := hDl k hk; omega
      · omega
    · rcases hd with hd | hd
      · have := hDl k hd; omega
      · omega
    · rcases hd with hd | hd
      · exact hd
      · omega
    · rcases hd with hd | hd
      · exact Or.inl hd
      · exact Or.inr (by omega)
end Go.Proofs.YtgmdedkingampaaGreat
