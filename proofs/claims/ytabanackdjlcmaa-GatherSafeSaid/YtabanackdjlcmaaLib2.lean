/-
  More small laws: append of a whole slice, whatever it is. No program in sight.
-/
import Derived.Test.YtabanackdjlcmaaLib
namespace Go.Proofs.Ytabanackdjlcmaa
open Go.ChangeShapes Go.WideShapes Go.ChangeAt Go.RowKit

theorem SlR.none {w : World} {n c : Nat} {cs : List Value} (h : SlR w (.slice none n c) cs) : cs = [] ∧ n = 0 := by
  obtain ⟨ao, c', hv, _, _, hx⟩ := h
  cases hv
  cases cs with
  | nil => exact ⟨rfl, rfl⟩
  | cons u r => obtain ⟨a, ha, _⟩ := hx 0 u rfl; cases ha
theorem SlR.len {w : World} {ao : Option Addr} {n c : Nat} {cs : List Value} (h : SlR w (.slice ao n c) cs) : n = cs.length := by
  obtain ⟨ao', c', hv, _⟩ := h
  cases hv; rfl
theorem SlR.cell {w : World} {a : Addr} {n c : Nat} {cs : List Value} (h : SlR w (.slice (some a) n c) cs) : ∀ j u, cs[j]? = some u → w.cell? (a.add j) = some u := by
  obtain ⟨ao', c', hv, _, _, hx⟩ := h
  cases hv
  intro j u hj
  obtain ⟨b, hb, hc⟩ := hx j u hj
  cases hb; exact hc
theorem SlR.form {w : World} {v : Value} {cs : List Value} (h : SlR w v cs) : ∃ ao c, v = .slice ao cs.length c ∧ cs.length ≤ c ∧ c ≤ 9223372036854775807 := by
  obtain ⟨ao, c, hv, h1, h2, _⟩ := h
  unfold maxLen at h2
  exact ⟨ao, c, hv, h1, by omega⟩

theorem run_append_none {P : Program} {w : World} {t ty e : TypeId} {i : TypeInfo} {base size : Nat} (ht : P.underlying t = some (.slice e)) (hi : P.info? e = some i)
    {v : Value} {n : Nat} {xs : List Value} (hown : w.ownsRow base e size v n xs) (c : Nat) :
    (Builtin.append_ #[t, t] ty #[v, .slice none 0 c]).run P w = .ok v w := by
  rcases hown.2 with ⟨rfl, rfl⟩ | ⟨g, cap, cur, rfl, _, _, hnc, _⟩
  · simp [Builtin.append_, run_underlying ht, sizeOf, typeInfo, hi, Builtin.lenOf, Builtin.firstCells]
  · simp [Builtin.append_, run_underlying ht, sizeOf, typeInfo, hi, Builtin.lenOf, Builtin.firstCells, hnc, storeCells]

/-- What 'append(out, src...)' leaves, out nil or the call's own, src whatever. -/
theorem run_appSrc {P : Program} {w : World} {t ty : TypeId} (base : Nat) (e : TypeId) (i : TypeInfo) (z : Value) (bytes : Nat) (ht : P.underlying t = some (.slice e)) (hi : P.info? e = some i) (hz : i.zero = some z)
    (hsize : i.size = 1) (hby : i.bytes = bytes) (hzs : z.cells.size = 1) (hb24 : bytes ≤ 32)
    {v src : Value} {n : Nat} {xs cs : List Value} (hown : w.ownsRow base e 1 v n xs) (hsrc : SlR w src cs) (hu : ∀ u ∈ cs, u.oneCell' = true)
    (hlen : n + cs.length ≤ 1099511627776) (hbase : base ≤ w.heap.size) :
    ∃ v' w', (Builtin.append_ #[t, t] ty #[v, src]).run P w = .ok v' w' ∧ w'.ownsRow base e 1 v' (n + cs.length) (xs ++ cs) ∧ Below base w w' ∧ (∀ g, v'.ownBlock = some g → v.ownBlock = some g ∨ w.heap.size ≤ g) ∧
      (∀ k, k < w.heap.size → some k ≠ v.ownBlock → w'.heap[k]? = w.heap[k]?) ∧ (v ≠ .slice none 0 0 → v' ≠ .slice none 0 0) := by
  obtain ⟨ao, c, rfl, h1, h2⟩ := hsrc.form
  cases ao with
  | none =>
    obtain ⟨rfl, _⟩ := hsrc.none
    exact ⟨v, w, run_append_none ht hi hown c, by simpa using hown, Below.refl _ _, fun g hg => Or.inl hg, fun k _ _ => rfl, fun h => h⟩
  | some ad =>
    obtain ⟨v', w', hr, h2, h3, h4, h5⟩ := run_append_own_at (P := P) w base t ty e i z 1 bytes ht hi hz hsize hby hzs (by omega) v n xs hown ad cs.length c cs (by simp) hsrc.cell hu (by unfold maxLen; omega)
      (by have := Nat.mul_le_mul_left (n + cs.length) hb24; omega) hbase
    refine ⟨v', w', hr, h2, (Below.refl _ _).grown h3 hbase (own_block hown), fun g hg => ?_, fun k hk hne => h3.block k hk hne, fun hv hv' => hv (h4.1 hv').1⟩
    rcases h5 with h5 | h5
    · left; rw [← h5]; exact hg
    · right; rw [h5] at hg; cases hg; exact Nat.le_refl _
theorem wp_appSrc {P : Program} {w : World} {o : Oper} {a : Act} {K : Act → World → Prop} {Q : Exit → Act → World → Prop} (s x : Operand) (t : TypeId)
    (ho : o.op = .call { callee := .builtin .append, args := #[s, x], argTypes := #[t, t] })
    (base : Nat) (e : TypeId) (i : TypeInfo) (z : Value) (bytes : Nat) (ht : P.underlying t = some (.slice e)) (hi : P.info? e = some i) (hz : i.zero = some z)
    (hsize : i.size = 1) (hby : i.bytes = bytes) (hzs : z.cells.size = 1) (hb24 : bytes ≤ 32)
    {v src : Value} {n : Nat} {xs cs : List Value} (hs : a.eval s = v) (hx : a.eval x = src) (hown : w.ownsRow base e 1 v n xs) (hsrc : SlR w src cs) (hu : ∀ u ∈ cs, u.oneCell' = true)
    (hlen : n + cs.length ≤ 1099511627776) (hbase : base ≤ w.heap.size)
    (h : ∀ v' w', w'.ownsRow base e 1 v' (n + cs.length) (xs ++ cs) → Below base w w' → (∀ g, v'.ownBlock = some g → v.ownBlock = some g ∨ w.heap.size ≤ g) →
      (∀ k, k < w.heap.size → some k ≠ v.ownBlock → w'.heap[k]? = w.heap[k]?) → (v ≠ .slice none 0 0 → v' ≠ .slice none 0 0) → K (a.put o.dst v') w') : o.wp P a w K Q := by
  obtain ⟨v', w', hr, h2, h3, h4, h5, h6⟩ := run_appSrc (P := P) (t := t) (ty := o.type) base e i z bytes ht hi hz hsize hby hzs hb24 hown hsrc hu hlen hbase
  unfold Oper.wp execOp
  simp only [ho, resolve, invoke, builtin, Sem.run_bind, Sem.run_pure, Result.andThen_ok, List.map_toArray, List.map_cons, List.map_nil, hs, hx, hr]
  exact h v' w' h2 h3 h4 h5 h6
theorem wpList_appSrc {P : Program} {w : World} {ops : Array Oper} {rest : List Oper} {o : Oper} {a : Act} {Q : Exit → Act → World → Prop} (hgd : o.guard = none) (s x : Operand) (t : TypeId)
    (ho : o.op = .call { callee := .builtin .append, args := #[s, x], argTypes := #[t, t] })
    (base : Nat) (e : TypeId) (i : TypeInfo) (z : Value) (bytes : Nat) (ht : P.underlying t = some (.slice e)) (hi : P.info? e = some i) (hz : i.zero = some z)
    (hsize : i.size = 1) (hby : i.bytes = bytes) (hzs : z.cells.size = 1) (hb24 : bytes ≤ 32)
    {v src : Value} {n : Nat} {xs cs : List Value} (hs : a.eval s = v) (hx : a.eval x = src) (hown : w.ownsRow base e 1 v n xs) (hsrc : SlR w src cs) (hu : ∀ u ∈ cs, u.oneCell' = true)
    (hlen : n + cs.length ≤ 1099511627776) (hbase : base ≤ w.heap.size)
    (h : ∀ v' w', w'.ownsRow base e 1 v' (n + cs.length) (xs ++ cs) → Below base w w' → (∀ g, v'.ownBlock = some g → v.ownBlock = some g ∨ w.heap.size ≤ g) →
      (∀ k, k < w.heap.size → some k ≠ v.ownBlock → w'.heap[k]? = w.heap[k]?) → (v ≠ .slice none 0 0 → v' ≠ .slice none 0 0) → wpList P ops Q rest (a.put o.dst v') w') : wpList P ops Q (o :: rest) a w :=
  wpList_plain hgd fun _ hK => wp_appSrc s x t ho base e i z bytes ht hi hz hsize hby hzs hb24 hs hx hown hsrc hu hlen hbase fun v' w' h2 h3 h4 h5 h6 => hK _ _ (h v' w' h2 h3 h4 h5 h6)
theorem step_appSrc {P : Program} {w : World} {ops : Array Oper} {o : Oper} {a : Act} {K : Act → World → Prop} {Q : Exit → Act → World → Prop} {E : Prop} (hgd : o.guard = none) (s x : Operand) (t : TypeId)
    (ho : o.op = .call { callee := .builtin .append, args := #[s, x], argTypes := #[t, t] })
    (base : Nat) (e : TypeId) (i : TypeInfo) (z : Value) (bytes : Nat) (ht : P.underlying t = some (.slice e)) (hi : P.info? e = some i) (hz : i.zero = some z)
    (hsize : i.size = 1) (hby : i.bytes = bytes) (hzs : z.cells.size = 1) (hb24 : bytes ≤ 32)
    {v src : Value} {n : Nat} {xs cs : List Value} (hs : a.eval s = v) (hx : a.eval x = src) (hown : w.ownsRow base e 1 v n xs) (hsrc : SlR w src cs) (hu : ∀ u ∈ cs, u.oneCell' = true)
    (hlen : n + cs.length ≤ 1099511627776) (hbase : base ≤ w.heap.size)
    (h : ∀ v' w', w'.ownsRow base e 1 v' (n + cs.length) (xs ++ cs) → Below base w w' → (∀ g, v'.ownBlock = some g → v.ownBlock = some g ∨ w.heap.size ≤ g) →
      (∀ k, k < w.heap.size → some k ≠ v.ownBlock → w'.heap[k]? = w.heap[k]?) → (v ≠ .slice none 0 0 → v' ≠ .slice none 0 0) → K (a.put o.dst v') w') : if Region.wanted o (yielded ops a.tmps) = true then Oper.wp P o a w K Q else E := by
  have hw : Region.wanted o (yielded ops a.tmps) = true := by simp [Region.wanted, hgd]
  rw [if_pos hw]
  exact wp_appSrc s x t ho base e i z bytes ht hi hz hsize hby hzs hb24 hs hx hown hsrc hu hlen hbase h
end Go.Proofs.Ytabanackdjlcmaa
