/-
  Package leader: what is found in its maps.
-/
import Derived.Test.YtjdjfhioobhcjaaLea5
namespace Go.Proofs.Ytjdjfhioobhcjaa
open Go.ChangeShapes Go.WideShapes Go.ChangeAt Go.RowKit Go.Maps
set_option maxRecDepth 100000

def kOr (A : LS) (slot : Int) : Vt := (A.kn slot).getD ⟨0, 0, []⟩
def oOr (A : LS) (slot : Int) : Vt × (Nat → Bool) := (A.op slot).getD (⟨0, 0, []⟩, fun _ => false)
theorem kOr_some {A : LS} {slot : Int} {v : Vt} (h : A.kn slot = some v) : kOr A slot = v := by unfold kOr; rw [h]; rfl
theorem oOr_some {A : LS} {slot : Int} {v : Vt × (Nat → Bool)} (h : A.op slot = some v) : oOr A slot = v := by unfold oOr; rw [h]; rfl
theorem LeaR.lookK {D : Nat → Prop} {w : World} {b0 bk N : Nat} {lo : Option Nat} {A : LS} (h : LeaR w D b0 (some bk) lo N A) {slot : Int} (us : U1 slot) : ∃ ao c,
    (∀ w' : World, w'.heap[bk]? = w.heap[bk]? → (Instr.lookup 105 (.map (some bk)) (.int .u64 slot) true).run Try.prog w' = .ok (.tuple #[.agg #[.int .u64 (kOr A slot).slot, .int .u64 (kOr A slot).ballot, .slice ao (kOr A slot).val.length c], .bool (A.kn slot).isSome]) w') ∧
    (∀ w' : World, w'.heap[bk]? = w.heap[bk]? → (Instr.lookup 105 (.map (some bk)) (.int .u64 slot) false).run Try.prog w' = .ok (.agg #[.int .u64 (kOr A slot).slot, .int .u64 (kOr A slot).ballot, .slice ao (kOr A slot).val.length c]) w') ∧
    SlR w (.slice ao (kOr A slot).val.length c) (u8s (kOr A slot).val) ∧ (kOr A slot).val.length ≤ 1000000 ∧ U8 (kOr A slot).val ∧ U1 (kOr A slot).ballot ∧ (∀ k, (Value.slice ao (kOr A slot).val.length c).ownBlock = some k → D k ∧ ¬ LR b0 (some bk) lo k) ∧ (kOr A slot).val.length ≤ c ∧ c ≤ 9223372036854775807 := by
  obtain ⟨f, hf, hv, hx⟩ := h.kn.some_ bk rfl
  have hval := hv slot us
  have h1 := fun (w' : World) (hw : w'.heap[bk]? = w.heap[bk]?) => (hf.same hw).look_ok uKeyed Try.underlying105 (zeroVote w') (u_key us)
  have h2 := fun (w' : World) (hw : w'.heap[bk]? = w.heap[bk]?) => (hf.same hw).look uKeyed Try.underlying105 (zeroVote w') (u_key us)
  cases hl : A.kn slot with
  | none =>
    rw [hl] at hval
    have hval : f (.int .u64 slot) = none := hval
    rw [hval] at h1 h2
    have e : kOr A slot = ⟨0, 0, []⟩ := by unfold kOr; rw [hl]; rfl
    rw [e]
    exact ⟨none, 0, h1, h2, SlR.nil w, by simp, (by intro y hy; cases hy), ⟨by decide, by decide⟩, (by intro k hk; cases hk), by simp, by omega⟩
  | some v =>
    rw [hl] at hval
    obtain ⟨sv, e1, e2, e3⟩ := hval
    obtain ⟨hs1, hs2, hs3, hs4, hs5⟩ := h.kn.small slot v hl
    rw [e1] at h1 h2
    obtain ⟨ao, c, rfl, g1, g2⟩ := e2.form
    simp only [List.length_map] at e2 g1 h1 h2 e3
    have e : kOr A slot = v := kOr_some hl
    rw [e]
    exact ⟨ao, c, h1, h2, e2, hs5, hs4, hs3, e3, g1, g2⟩
theorem LeaR.lookO {D : Nat → Prop} {w : World} {b0 bl N : Nat} {ko : Option Nat} {A : LS} (h : LeaR w D b0 ko (some bl) N A) {slot : Int} (us : U1 slot) : ∃ ao c,
    (∀ w' : World, w'.heap[bl]? = w.heap[bl]? → (Instr.lookup 114 (.map (some bl)) (.int .u64 slot) true).run Try.prog w' = .ok (.tuple #[.agg #[.int .u64 (oOr A slot).1.slot, .int .u64 (oOr A slot).1.ballot, .slice ao (oOr A slot).1.val.length c, .int .u32 (msk 32 (oOr A slot).2)], .bool (A.op slot).isSome]) w') ∧
    (∀ w' : World, w'.heap[bl]? = w.heap[bl]? → (Instr.lookup 114 (.map (some bl)) (.int .u64 slot) false).run Try.prog w' = .ok (.agg #[.int .u64 (oOr A slot).1.slot, .int .u64 (oOr A slot).1.ballot, .slice ao (oOr A slot).1.val.length c, .int .u32 (msk 32 (oOr A slot).2)]) w') ∧
    SlR w (.slice ao (oOr A slot).1.val.length c) (u8s (oOr A slot).1.val) ∧ (oOr A slot).1.val.length ≤ 1000000 ∧ U8 (oOr A slot).1.val ∧ U1 (oOr A slot).1.ballot ∧ (∀ k, (Value.slice ao (oOr A slot).1.val.length c).ownBlock = some k → D k ∧ ¬ LR b0 ko (some bl) k) ∧ (oOr A slot).1.val.length ≤ c ∧ c ≤ 9223372036854775807 := by
  obtain ⟨f, hf, hv, hx⟩ := h.op.some_ bl rfl
  have hval := hv slot us
  have h1 := fun (w' : World) (hw : w'.heap[bl]? = w.heap[bl]?) => (hf.same hw).look_ok uKeyed Try.underlying114 (zeroOpen w') (u_key us)
  have h2 := fun (w' : World) (hw : w'.heap[bl]? = w.heap[bl]?) => (hf.same hw).look uKeyed Try.underlying114 (zeroOpen w') (u_key us)
  cases hl : A.op slot with
  | none =>
    rw [hl] at hval
    have hval : f (.int .u64 slot) = none := hval
    rw [hval] at h1 h2
    have e : oOr A slot = (⟨0, 0, []⟩, fun _ => false) := by unfold oOr; rw [hl]; rfl
    rw [e]
    simp only [msk_none]
    exact ⟨none, 0, h1, h2, SlR.nil w, by simp, (by intro y hy; cases hy), ⟨by decide, by decide⟩, (by intro k hk; cases hk), by simp, by omega⟩
  | some q =>
    obtain ⟨v, g⟩ := q
    rw [hl] at hval
    obtain ⟨sv, e1, e2, e3⟩ := hval
    obtain ⟨hs1, hs2, hs3, hs4, hs5⟩ := h.op.small slot (v, g) hl
    simp only at hs2 hs3 hs4 hs5
    rw [e1] at h1 h2
    obtain ⟨ao, c, rfl, g1, g2⟩ := e2.form
    simp only [List.length_map] at e2 g1 h1 h2 e3
    have e : oOr A slot = (v, g) := oOr_some hl
    rw [e]
    exact ⟨ao, c, h1, h2, e2, hs5, hs4, hs3, e3, g1, g2⟩
end Go.Proofs.Ytjdjfhioobhcjaa
