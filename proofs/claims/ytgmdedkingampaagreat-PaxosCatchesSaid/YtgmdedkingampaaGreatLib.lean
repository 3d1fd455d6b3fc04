/-
  Small words used by all texts of this claim: slices that read as a list, what stays below, the frame of a law's proof. No program in sight.
-/
import Derived.WalkKit
import Derived.WalkSpells
import Derived.WalkLawsBesides
import Derived.Handy
import Derived.Lib.Hide
import Derived.ProofKit
import Derived.SizedLaws
import Derived.Deep.Matrix
import Derived.Deep.LoopGhost
import Derived.Deep.QuietTactic
import Derived.BigQuiet
import Derived.StillTailTactics
import Derived.Deep.Light
import Derived.Deep.DeepCutAuto
import Derived.Deep.DeepFit
import Derived.Deep.RegionHeld3
import Derived.Deep.AppendLies
set_option linter.unusedVariables false
set_option linter.unusedSimpArgs false
namespace Go.Proofs.YtgmdedkingampaaGreat
open Go.ChangeShapes Go.WideShapes Go.ChangeAt Go.RowKit

/-- A slice value whose elements (one cell each) read as cs. -/
def SlR (w : World) (v : Value) (cs : List Value) : Prop :=
  ∃ ao c, v = .slice ao cs.length c ∧ cs.length ≤ c ∧ c ≤ maxLen ∧ ∀ i u, cs[i]? = some u → ∃ a, ao = some a ∧ w.cell? (a.add i) = some u

abbrev u64s (xs : List Int) : List Value := xs.map (Value.int .u64)

theorem SlR.below {B : Nat} {w w' : World} {v : Value} {cs : List Value} (hb : Below B w w') (hB : w.heap.size ≤ B) (h : SlR w v cs) : SlR w' v cs := by
  obtain ⟨ao, c, hv, h1, h2, h3⟩ := h
  refine ⟨ao, c, hv, h1, h2, fun i u hi => ?_⟩
  obtain ⟨a, ha, hc⟩ := h3 i u hi
  refine ⟨a, ha, ?_⟩
  have := World.block_lt_of_cell? w _ hc
  rw [hb.cell (by omega)]
  exact hc

theorem SlR.ints {w : World} {k : IntKind} {v : Value} {xs : List Int} (h : SlR w v (xs.map (Value.int k))) :
    ∃ ao c, v = .slice ao xs.length c ∧ xs.length ≤ c ∧ c ≤ 9223372036854775807 ∧ ∀ i (hi : i < xs.length), ∃ a, ao = some a ∧ w.cell? (a.add i) = some (.int k xs[i]) := by
  obtain ⟨ao, c, hv, h1, h2, h3⟩ := h
  simp only [List.length_map] at hv h1
  unfold maxLen at h2
  exact ⟨ao, c, hv, h1, by omega, fun i hi => h3 i _ (by simp [hi])⟩
theorem SlR.take {w : World} {ao : Option Addr} {n c : Nat} {cs : List Value} (h : SlR w (.slice ao n c) cs) (k : Nat) (hk : k ≤ cs.length) : SlR w (.slice ao k k) (cs.take k) := by
  obtain ⟨ao', c', hv, h1, h2, h3⟩ := h
  cases hv
  have e : (cs.take k).length = k := by simp; omega
  refine ⟨ao, k, by rw [e], by omega, by omega, fun i u hi => h3 i u ?_⟩
  rw [List.getElem?_take] at hi
  split at hi
  · exact hi
  · cases hi

theorem SlR.nil (w : World) : SlR w (.slice none 0 0) [] := ⟨none, 0, rfl, Nat.le_refl _, Nat.zero_le _, by simp⟩

theorem SlR.of_own {w : World} {base : Nat} {e : TypeId} {v : Value} {n : Nat} {xs : List Value} (h : w.ownsRow base e 1 v n xs) : SlR w v xs := by
  have hn : n = xs.length := by have := h.1; omega
  subst hn
  rcases h.2 with ⟨rfl, h0⟩ | ⟨g, cap, cur, rfl, hb, hg, hnc, hcm, hcs, htake⟩
  · have : xs = [] := List.eq_nil_of_length_eq_zero h0
    subst this
    exact SlR.nil w
  · exact ⟨some ⟨g, 0, none⟩, cap, rfl, hnc, hcm, fun i u hi => ⟨_, rfl, h.cells (g := g) rfl i u hi⟩⟩

theorem SlR.of_cells {w : World} {k : IntKind} {a : Addr} {len cap : Nat} {zs : List Int} (hl : len ≤ cap) (hm : cap ≤ maxLen) (hz : zs.length = cap)
    (hc : ∀ i, i < zs.length → w.cell? (a.add i) = some (.int k (zs.getD i 0))) : SlR w (.slice (some a) len cap) ((zs.take len).map (Value.int k)) := by
  have e : ((zs.take len).map (Value.int k)).length = len := by simp; omega
  refine ⟨some a, cap, by rw [e], by rw [e]; exact hl, hm, fun i u hi => ⟨a, rfl, ?_⟩⟩
  have hi2 : i < len := by have := (List.getElem?_eq_some_iff.1 hi).1; omega
  rw [hc i (by omega)]
  rw [List.getElem?_map, List.getElem?_take, if_pos hi2] at hi
  rw [List.getD, List.getElem?_eq_getElem (by omega)] at *
  simp at hi ⊢
  exact hi

theorem own_pos {w : World} {base : Nat} {e : TypeId} {v : Value} {n : Nat} {xs : List Value} (h : w.ownsRow base e 1 v n xs) (hn : 0 < n) : ∃ g cap, v = .slice (some ⟨g, 0, none⟩) n cap ∧ base ≤ g := by
  rcases h.2 with ⟨_, h0⟩ | ⟨g, cap, cur, rfl, hb, _⟩
  · omega
  · exact ⟨g, cap, rfl, hb⟩
theorem _root_.Go.World.ownsRow.weaken {w : World} {base base' : Nat} {e : TypeId} {k : Nat} {v : Value} {n : Nat} {xs : List Value} (h : w.ownsRow base e k v n xs) (hb : base' ≤ base) : w.ownsRow base' e k v n xs := by
  refine ⟨h.1, ?_⟩
  rcases h.2 with h0 | ⟨g, cap, cur, e1, e2, r⟩
  · exact Or.inl h0
  · exact Or.inr ⟨g, cap, cur, e1, Nat.le_trans hb e2, r⟩
theorem own_slice {w : World} {base : Nat} {e : TypeId} {v : Value} {n : Nat} {xs : List Value} (h : w.ownsRow base e 1 v n xs) : ∃ ao cap, v = .slice ao n cap ∧ n ≤ cap ∧ cap ≤ maxLen := by
  rcases h.2 with ⟨rfl, rfl⟩ | ⟨g, cap, cur, rfl, hb, hg, h1, h2, _⟩
  · exact ⟨none, 0, rfl, Nat.le_refl _, Nat.zero_le _⟩
  · exact ⟨_, cap, rfl, h1, h2⟩
theorem own_block {w : World} {base : Nat} {e : TypeId} {v : Value} {n : Nat} {xs : List Value} (h : w.ownsRow base e 1 v n xs) : ∀ k, v.ownBlock = some k → base ≤ k := fun k hk => (h.lt k hk).1
/-- The one cell of a new block. -/
theorem lit_one (w : World) (x : Value) (e : TypeId) : ∀ j u, [x][j]? = some u → (w.alloc (.cells #[x] e)).cell? ((⟨w.heap.size, 0, none⟩ : Addr).add j) = some u := by
  intro j u hj
  match j, hj with
  | 0, hj => simp at hj; subst hj; simp [Addr.add]
/-- How many elements a slice has. -/
def lenOf : Value → Nat | .slice _ n _ => n | _ => 0

theorem cell_alloc {w : World} {a : Addr} {u : Value} (o : Obj) (h : w.cell? a = some u) : (w.alloc o).cell? a = some u := by
  have hb := World.block_lt_of_cell? w _ h
  rw [((Below.refl w.heap.size w).alloc (Nat.le_refl _) o).cell hb]
  exact h

theorem drewN_eq (w : World) (n : Nat) : w.drewN n = { w with drawn := w.drawn + n } := rfl
theorem below_drewN {B : Nat} {a w : World} (h : Below B a w) (n : Nat) : Below B a (w.drewN n) := ⟨h.os, h.tape, h.output, h.size, h.block⟩
/-- A world behind some draws. -/
def Drew (w w' : World) : Prop := ∃ n, w' = w.drewN n
theorem Drew.refl (w : World) : Drew w w := ⟨0, rfl⟩
theorem Drew.of (w : World) (n : Nat) : Drew w (w.drewN n) := ⟨n, rfl⟩
theorem Drew.drewN {a w : World} (h : Drew a w) (n : Nat) : Drew a (w.drewN n) := by obtain ⟨m, rfl⟩ := h; exact ⟨m + n, by simp [drewN_eq, Nat.add_assoc]⟩
theorem Drew.trans {a b c : World} (h : Drew a b) (k : Drew b c) : Drew a c := by obtain ⟨n, rfl⟩ := k; exact h.drewN n
theorem Drew.below {a w : World} {B : Nat} (h : Drew a w) : Below B a w := by obtain ⟨m, rfl⟩ := h; exact below_drewN (Below.refl _ _) m
theorem SlR.drew {w w' : World} {v : Value} {cs : List Value} (h : SlR w v cs) (k : Drew w w') : SlR w' v cs := h.below (B := w.heap.size) k.below (Nat.le_refl _)
/-- A contract of a callee that leaves the world alone, inside a region that draws. -/
theorem quiet_same {P : Program} {f : FuncId} {args : Array Value} {w : World} {n : Nat} {v : Value}
    (h : Calls P f args (w.drewN n) fun e w' => e = .returned v ∧ w.drewN n = w') : Calls P f args (w.drewN n) fun e w'' => e = .returned v ∧ ∃ m, w'' = w.drewN m :=
  h.mono fun _ _ ⟨he, hm⟩ => ⟨he, n, hm.symm⟩
theorem quiet_drew {P : Program} {f : FuncId} {args : Array Value} {w : World} {n : Nat} {v : Value}
    (h : Calls P f args (w.drewN n) fun e w' => e = .returned v ∧ Drew (w.drewN n) w') : Calls P f args (w.drewN n) fun e w'' => e = .returned v ∧ ∃ m, w'' = w.drewN m :=
  h.mono fun _ _ ⟨he, hm⟩ => ⟨he, (Drew.of w n).trans hm⟩
theorem SlR.drewN {w : World} {v : Value} {cs : List Value} (h : SlR w v cs) (n : Nat) : SlR (w.drewN n) v cs := h.below (below_drewN (Below.refl w.heap.size w) n) (Nat.le_refl _)
theorem own_drewN {w : World} {base : Nat} {e : TypeId} {k : Nat} {v : Value} {n : Nat} {xs : List Value} (h : w.ownsRow base e k v n xs) (m : Nat) : (w.drewN m).ownsRow base e k v n xs := h

/-- The number at a place; nought where there is none. -/
def atI (xs : List Int) (i : Int) : Int := if 0 ≤ i then xs.getD i.toNat 0 else 0

theorem SlR.intsAt {w : World} {k : IntKind} {v : Value} {xs : List Int} (h : SlR w v (xs.map (Value.int k))) :
    ∃ ao c, v = .slice ao xs.length c ∧ xs.length ≤ c ∧ c ≤ 9223372036854775807 ∧ ∀ i : Nat, i < xs.length → ∃ a, ao = some a ∧ w.cell? (a.add i) = some (.int k (atI xs i)) := by
  obtain ⟨ao, c, hv, h1, h2, h3⟩ := h.ints
  refine ⟨ao, c, hv, h1, h2, fun i hi => ?_⟩
  have e : atI xs i = xs[i] := by simp [atI, hi]
  rw [e]
  exact h3 i hi

/-- What a law's walk carries from call to call: old memory is as it was; these slices read as these lists. -/
structure Env (W w : World) (l : List (Value × List Value)) : Prop where
  below : Below W.heap.size W w
  get : ∀ (i : Nat) v cs, l[i]? = some (v, cs) → SlR w v cs
theorem Env.nil {W w : World} (h : Below W.heap.size W w) : Env W w [] := ⟨h, by simp⟩
theorem Env.step {W w w' : World} {l : List (Value × List Value)} (E : Env W w l) (h : Below w.heap.size w w') : Env W w' l :=
  ⟨E.below.trans (h.mono E.below.size), fun i v cs hi => (E.get i v cs hi).below h (Nat.le_refl _)⟩
theorem Env.add {W w : World} {l : List (Value × List Value)} {v : Value} {cs : List Value} (E : Env W w l) (h : SlR w v cs) : Env W w ((v, cs) :: l) :=
  ⟨E.below, fun i v' cs' hi => by
    match i, hi with
    | 0, hi => simp at hi; obtain ⟨rfl, rfl⟩ := hi; exact h
    | i + 1, hi => exact E.get i v' cs' (by simpa using hi)⟩
theorem Env.drew {W w w' : World} {l : List (Value × List Value)} (E : Env W w l) (h : Drew w w') : Env W w' l := E.step h.below

/-- 'append(out, u)': one element of one cell, onto nil or onto what the call owns: the element lies in a new block. -/
theorem wp_app1 {P : Program} {w : World} {o : Oper} {a : Act} {K : Act → World → Prop} {Q : Exit → Act → World → Prop} (s x : Operand) (t : TypeId)
    (ho : o.op = .call { callee := .builtin .append, args := #[s, x], argTypes := #[t, t] })
    (base : Nat) (e : TypeId) (i : TypeInfo) (z : Value) (bytes : Nat) (ht : P.underlying t = some (.slice e)) (hi : P.info? e = some i) (hz : i.zero = some z)
    (hsize : i.size = 1) (hby : i.bytes = bytes) (hzs : z.cells.size = 1) (hb24 : bytes ≤ 32)
    {v : Value} {n : Nat} {xs : List Value} {u : Value} {c : Nat} {e' : TypeId} (hs : a.eval s = v) (hx : a.eval x = .slice (some ⟨w.heap.size, 0, none⟩) 1 c) (hown : w.ownsRow base e 1 v n xs) (hu : u.oneCell' = true)
    (hlen : n ≤ 1099511627776) (hbase : base ≤ w.heap.size)
    (h : ∀ g cap w', w'.ownsRow base e 1 (.slice (some ⟨g, 0, none⟩) (n + 1) cap) (n + 1) (xs ++ [u]) → Below base w w' → (v.ownBlock = some g ∨ w.heap.size ≤ g) → (∀ k, k < w.heap.size → some k ≠ v.ownBlock → w'.heap[k]? = w.heap[k]?) →
      K (a.put o.dst (.slice (some ⟨g, 0, none⟩) (n + 1) cap)) w') : o.wp P a (w.alloc (.cells #[u] e')) K Q := by
  refine wp_append_lies _ s x t ho base e i z 1 bytes ht hi hz hsize hby hzs (by omega) v n xs hs (hown.alloc _) ⟨w.heap.size, 0, none⟩ 1 c [u] hx rfl (lit_one _ _ _) (by intro y hy; simp at hy; subst hy; exact hu) (by omega) (by unfold maxLen; omega)
    (by have := Nat.mul_le_mul_left (n + 1) hb24; omega) (by simp; omega) _ rfl ?_
  intro g cap w' h1 h2 h3 _
  refine h g cap w' h1 (((Below.refl _ _).alloc hbase _).grown h2 (by simp; omega) (own_block hown)) ?_ ?_
  · rcases h3 with h3 | h3
    · exact .inl h3
    · right; rw [h3]; simp
  · intro k hk hne
    rw [h2.block k (by simp; omega) hne, Below.heap_alloc _ _ _ hk]
theorem wpList_app1 {P : Program} {w : World} {ops : Array Oper} {rest : List Oper} {o : Oper} {a : Act} {Q : Exit → Act → World → Prop} (hgd : o.guard = none) (s x : Operand) (t : TypeId)
    (ho : o.op = .call { callee := .builtin .append, args := #[s, x], argTypes := #[t, t] })
    (base : Nat) (e : TypeId) (i : TypeInfo) (z : Value) (bytes : Nat) (ht : P.underlying t = some (.slice e)) (hi : P.info? e = some i) (hz : i.zero = some z)
    (hsize : i.size = 1) (hby : i.bytes = bytes) (hzs : z.cells.size = 1) (hb24 : bytes ≤ 32)
    {v : Value} {n : Nat} {xs : List Value} {u : Value} {c : Nat} {e' : TypeId} (hs : a.eval s = v) (hx : a.eval x = .slice (some ⟨w.heap.size, 0, none⟩) 1 c) (hown : w.ownsRow base e 1 v n xs) (hu : u.oneCell' = true)
    (hlen : n ≤ 1099511627776) (hbase : base ≤ w.heap.size)
    (h : ∀ g cap w', w'.ownsRow base e 1 (.slice (some ⟨g, 0, none⟩) (n + 1) cap) (n + 1) (xs ++ [u]) → Below base w w' → (v.ownBlock = some g ∨ w.heap.size ≤ g) → (∀ k, k < w.heap.size → some k ≠ v.ownBlock → w'.heap[k]? = w.heap[k]?) →
      wpList P ops Q rest (a.put o.dst (.slice (some ⟨g, 0, none⟩) (n + 1) cap)) w') : wpList P ops Q (o :: rest) a (w.alloc (.cells #[u] e')) :=
  wpList_plain hgd fun _ hK => wp_app1 s x t ho base e i z bytes ht hi hz hsize hby hzs hb24 hs hx hown hu hlen hbase fun g cap w' h1 h2 h3 h4 => hK _ _ (h g cap w' h1 h2 h3 h4)
theorem step_app1 {P : Program} {w : World} {ops : Array Oper} {o : Oper} {a : Act} {K : Act → World → Prop} {Q : Exit → Act → World → Prop} {E : Prop} (hgd : o.guard = none) (s x : Operand) (t : TypeId)
    (ho : o.op = .call { callee := .builtin .append, args := #[s, x], argTypes := #[t, t] })
    (base : Nat) (e : TypeId) (i : TypeInfo) (z : Value) (bytes : Nat) (ht : P.underlying t = some (.slice e)) (hi : P.info? e = some i) (hz : i.zero = some z)
    (hsize : i.size = 1) (hby : i.bytes = bytes) (hzs : z.cells.size = 1) (hb24 : bytes ≤ 32)
    {v : Value} {n : Nat} {xs : List Value} {u : Value} {c : Nat} {e' : TypeId} (hs : a.eval s = v) (hx : a.eval x = .slice (some ⟨w.heap.size, 0, none⟩) 1 c) (hown : w.ownsRow base e 1 v n xs) (hu : u.oneCell' = true)
    (hlen : n ≤ 1099511627776) (hbase : base ≤ w.heap.size)
    (h : ∀ g cap w', w'.ownsRow base e 1 (.slice (some ⟨g, 0, none⟩) (n + 1) cap) (n + 1) (xs ++ [u]) → Below base w w' → (v.ownBlock = some g ∨ w.heap.size ≤ g) → (∀ k, k < w.heap.size → some k ≠ v.ownBlock → w'.heap[k]? = w.heap[k]?) →
      K (a.put o.dst (.slice (some ⟨g, 0, none⟩) (n + 1) cap)) w') : if Region.wanted o (yielded ops a.tmps) = true then Oper.wp P o a (w.alloc (.cells #[u] e')) K Q else E := by
  have hw : Region.wanted o (yielded ops a.tmps) = true := by simp [Region.wanted, hgd]
  rw [if_pos hw]
  exact wp_app1 s x t ho base e i z bytes ht hi hz hsize hby hzs hb24 hs hx hown hu hlen hbase h

/-- 'append(out, u1, u2, ..)': elements of one cell each, laid in a new block. -/
theorem wpList_appN {P : Program} {w : World} {ops : Array Oper} {rest : List Oper} {o : Oper} {a : Act} {Q : Exit → Act → World → Prop} (hgd : o.guard = none) (s x : Operand) (t : TypeId)
    (ho : o.op = .call { callee := .builtin .append, args := #[s, x], argTypes := #[t, t] })
    (base : Nat) (e : TypeId) (i : TypeInfo) (z : Value) (bytes : Nat) (ht : P.underlying t = some (.slice e)) (hi : P.info? e = some i) (hz : i.zero = some z)
    (hsize : i.size = 1) (hby : i.bytes = bytes) (hzs : z.cells.size = 1) (hb24 : bytes ≤ 32)
    {v : Value} {n m : Nat} {xs : List Value} {us : Array Value} {c : Nat} {e' : TypeId} (hs : a.eval s = v) (hx : a.eval x = .slice (some ⟨w.heap.size, 0, none⟩) m c) (hm : us.toList.length = m) (hm0 : 0 < m) (hown : w.ownsRow base e 1 v n xs) (hu : ∀ u ∈ us.toList, u.oneCell' = true)
    (hlen : n + m ≤ 1099511627776) (hbase : base ≤ w.heap.size)
    (h : ∀ g cap w', w'.ownsRow base e 1 (.slice (some ⟨g, 0, none⟩) (n + m) cap) (n + m) (xs ++ us.toList) → Below base w w' → (v.ownBlock = some g ∨ w.heap.size ≤ g) → (∀ k, k < w.heap.size → some k ≠ v.ownBlock → w'.heap[k]? = w.heap[k]?) →
      wpList P ops Q rest (a.put o.dst (.slice (some ⟨g, 0, none⟩) (n + m) cap)) w') : wpList P ops Q (o :: rest) a (w.alloc (.cells us e')) := by
  refine wpList_append_lies _ hgd s x t ho base e i z 1 bytes ht hi hz hsize hby hzs (by omega) v n xs hs (hown.alloc _) ⟨w.heap.size, 0, none⟩ m c us.toList hx (by omega) (World.news_of_block (heap_alloc_new w _)) hu hm0 (by unfold maxLen; omega)
    (by have := Nat.mul_le_mul_left (n + m) hb24; omega) (by simp; omega) _ rfl ?_
  intro g cap w' h1 h2 h3 _
  refine h g cap w' h1 (((Below.refl _ _).alloc hbase _).grown h2 (by simp; omega) (own_block hown)) ?_ ?_
  · rcases h3 with h3 | h3
    · exact .inl h3
    · right; rw [h3]; simp
  · intro k hk hne
    rw [h2.block k (by simp; omega) hne, Below.heap_alloc _ _ _ hk]
/-- What a slice owns stays where its block is as it was. -/
theorem own_keep {w w' : World} {base : Nat} {e : TypeId} {k : Nat} {v : Value} {n : Nat} {xs : List Value} (h : w.ownsRow base e k v n xs) (hk : ∀ b, v.ownBlock = some b → w'.heap[b]? = w.heap[b]?) : w'.ownsRow base e k v n xs := by
  refine ⟨h.1, ?_⟩
  rcases h.2 with h0 | ⟨g, cap, cur, rfl, e2, e3, r⟩
  · exact Or.inl h0
  · exact Or.inr ⟨g, cap, cur, rfl, e2, by rw [hk g rfl]; exact e3, r⟩
/-- Two slices that own no block together. -/
def ApartV (a b : Value) : Prop := ∀ k, a.ownBlock = some k → b.ownBlock ≠ some k
theorem ApartV.symm {a b : Value} (h : ApartV a b) : ApartV b a := fun k h1 h2 => h k h2 h1

/-- The same at a step of a region that draws, in whatever world: the new element's block is known whole. -/
theorem step_app1w {P : Program} {w : World} {ops : Array Oper} {o : Oper} {a : Act} {K : Act → World → Prop} {Q : Exit → Act → World → Prop} {E : Prop} (hgd : o.guard = none) (s x : Operand) (t : TypeId)
    (ho : o.op = .call { callee := .builtin .append, args := #[s, x], argTypes := #[t, t] })
    (base : Nat) (e : TypeId) (i : TypeInfo) (z : Value) (bytes : Nat) (ht : P.underlying t = some (.slice e)) (hi : P.info? e = some i) (hz : i.zero = some z)
    (hsize : i.size = 1) (hby : i.bytes = bytes) (hzs : z.cells.size = 1) (hb24 : bytes ≤ 32)
    {v : Value} {n : Nat} {xs : List Value} {u : Value} {c : Nat} {e' : TypeId} {B : Nat} {fr : Nat × Nat} (hs : a.eval s = v) (hx : a.eval x = .slice (some ⟨B, 0, none⟩) 1 c) (hB : w.heap[B]? = some (.cells #[u] e' fr)) (hown : w.ownsRow base e 1 v n xs) (hu : u.oneCell' = true)
    (hlen : n ≤ 1099511627776) (hbase : base ≤ w.heap.size)
    (h : ∀ g cap w', w'.ownsRow base e 1 (.slice (some ⟨g, 0, none⟩) (n + 1) cap) (n + 1) (xs ++ [u]) → Below base w w' → (v.ownBlock = some g ∨ w.heap.size ≤ g) → (∀ k, k < w.heap.size → some k ≠ v.ownBlock → w'.heap[k]? = w.heap[k]?) →
      K (a.put o.dst (.slice (some ⟨g, 0, none⟩) (n + 1) cap)) w') : if Region.wanted o (yielded ops a.tmps) = true then Oper.wp P o a w K Q else E := by
  have hw : Region.wanted o (yielded ops a.tmps) = true := by simp [Region.wanted, hgd]
  rw [if_pos hw]
  refine wp_append_lies _ s x t ho base e i z 1 bytes ht hi hz hsize hby hzs (by omega) v n xs hs hown ⟨B, 0, none⟩ 1 c [u] hx rfl (World.news_of_block hB) (by intro y hy; simp at hy; subst hy; exact hu) (by omega) (by unfold maxLen; omega)
    (by have := Nat.mul_le_mul_left (n + 1) hb24; omega) hbase _ rfl ?_
  intro g cap w' h1 h2 h3 _
  refine h g cap w' h1 ((Below.refl _ _).grown h2 hbase (own_block hown)) ?_ (fun k hk hne => h2.block k hk hne)
  rcases h3 with h3 | h3
  · exact .inl h3
  · right; omega

/-- All arguments read behind the call as they read before it. -/
theorem trodAll_below {H : Type} {enc : TypeId × Value → H} {P : Program} (hl : laidOutB P = true) {W W' : World} (hb : Below W.heap.size W W') :
    ∀ (ts : List TypeId), ts.all (fun t => P.readableRec t && decide (t < P.types.size)) = true → ∀ (vs : List Value) (ds : List (DataW H)) (ps : List MemPlace),
      DataW.TrodAll enc P W 0 (fun _ => true) true ts vs ds ps → (∀ x ∈ ps, x.block < W.heap.size) → DataW.TrodAll enc P W' 0 (fun b => decide (b < W.heap.size)) true ts vs ds ps
  | [], _, [], [], ps, h, _ => h
  | [], _, [], _ :: _, ps, h, _ => by simp [DataW.TrodAll] at h
  | [], _, _ :: _, _, ps, h, _ => by simp [DataW.TrodAll] at h
  | t :: ts, ht, [], _, ps, h, _ => by simp [DataW.TrodAll] at h
  | t :: ts, ht, _ :: _, [], ps, h, _ => by simp [DataW.TrodAll] at h
  | t :: ts, ht, v :: vs, d :: ds, ps, h, hlt => by
    obtain ⟨p, q, h1, h2, rfl⟩ := h
    simp only [List.all_cons, Bool.and_eq_true, decide_eq_true_eq] at ht
    refine ⟨p, q, Below.trod hl ht.1.1 ht.1.2 h1 hb (fun x hx => hlt x (by simp [hx])), trodAll_below hl hb ts ht.2 vs ds q h2 (fun x hx => hlt x (by simp [hx])), rfl⟩

/-- WHAT A LAW's ROW ASKS BEHIND THE CALL, where the call answers true and leaves all old memory alone. -/
theorem law_post {H : Type} {enc : TypeId × Value → H} {P : Program} {f : Func} {s : ChangeSpec} {W W' : World} {args : Array Value} {ds gs : List (DataW H)} {before : List MemPlace} {tb : TypeId}
    (hl : laidOutB P = true) (hv : s.vars = []) (hr : f.resultTypes.toList = [tb]) (htb : P.underlying tb = some .bool)
    (hts : f.params.toList.all (fun t => P.readableRec t && decide (t < P.types.size)) = true)
    (hs : (s.fn H (ds ++ [])).results = [.lit (.bool true)] ∧ (s.fn H (ds ++ [])).args = ds ∧ (s.fn H (ds ++ [])).vars = [])
    (hW : DataW.Whole enc P f.params.toList s.vars false W args.toList ds gs before) (hb : Below W.heap.size W W') :
    s.post enc P f false true false false W args (.bool true) W' := by
  have hW' := hW
  obtain ⟨p, q, hA, hV, rfl, _, _⟩ := hW
  rw [hv] at hV
  obtain ⟨rfl, rfl⟩ := trodVars_none hV
  have hlt : ∀ x ∈ p, x.block < W.heap.size := fun x hx => by simpa using hW'.lt x (by simp [hx])
  have hrs : f.resultTypes.size = 1 := by rw [← Array.length_toList, hr]; rfl
  refine ⟨ds, [], _, [], p, [], hW', ?_, ?_, ?_, hb.frame _, fun h => by cases h⟩
  · rw [hr, hs.1, hrs]; exact trodAll_mk1 (shut_bool htb true)
  · rw [hs.2.1]; exact trodAll_below hl hb _ hts _ _ _ hA hlt
  · rw [hs.2.2, hv]; rfl

/-- A slice of numbers among the arguments. -/
theorem arg_ints {H : Type} {enc : TypeId × Value → H} {P : Program} {W : World} {t e : TypeId} {k : IntKind} {v : Value} {d : DataW H} {ps : List MemPlace} {r : Reach} {b0 : Nat}
    (ht : P.underlying t = some (.slice e)) (he : P.underlying e = some (.int k)) (hc : P.cellsOf e = 1) (hval : Value.okWide P W r b0 t v)
    (h : DataW.Trod enc P W 0 (fun _ => true) true t v d ps) : ∃ xs : List Int, SlR W v (xs.map (Value.int k)) ∧ ∀ x ∈ xs, (Lit.int k x).wf = true := by
  obtain ⟨a0, len, cap, rfl⟩ := okWide_slice ht hval
  obtain ⟨fuel, hf⟩ := h
  rcases open_ints ht he hc hf with ⟨hcs, _⟩ | ⟨a, len', cap', zs, hcs, _, hl, hm, hz, _, hcell, hwz⟩
  · simp [Value.cells] at hcs
    obtain ⟨rfl, rfl, rfl⟩ := hcs
    exact ⟨[], SlR.nil W, by simp⟩
  · simp [Value.cells] at hcs
    obtain ⟨rfl, rfl, rfl⟩ := hcs
    exact ⟨zs.take len, SlR.of_cells hl hm (by simpa using hz) hcell, fun x hx => hwz x (List.mem_of_mem_take hx)⟩

/-- THE FRAME OF A LAW's PROOF: what is left is the walk. -/
theorem law_frame {H : Type} {enc : TypeId × Value → H} {C : Checked} {os : Os} {f : FuncId} {fn : Func} {s : ChangeSpec} {tb : TypeId}
    (own : ownKnob C.prog.godebug = none) (started : os.Started) (noInit : C.prog.inits.idxOf? f = none) (hfn : C.prog.funcs[f]? = some fn)
    (hl : laidOutB C.prog = true) (hv : s.vars = []) (hr : fn.resultTypes.toList = [tb]) (htb : C.prog.underlying tb = some .bool)
    (hts : fn.params.toList.all (fun t => C.prog.readableRec t && decide (t < C.prog.types.size)) = true)
    (hs : ∀ ds : List (DataW H), ds.length = fn.params.size → (s.fn H (ds ++ [])).results = [.lit (.bool true)] ∧ (s.fn H (ds ++ [])).args = ds ∧ (s.fn H (ds ++ [])).vars = [])
    (witness : ∃ (w : World) (tape : Tape) (i : Input), w.os = os ∧ (w.forCall tape i).Shaped C.prog ∧ i.vars = [] ∧ Input.okWide C.prog (w.forCall tape i) .any w.heap.size f i ∧
      s.pre6 enc C.prog fn [] false (w.forCall tape i).memory i.args ∧ ({} : Assume).holds C.prog (lone (Frame.enter C.prog f i.args .normal) [] (w.forCall tape i)))
    (walk : ∀ (W : World) (base : Nat) (args : Array Value) (ds : List (DataW H)) (p : List MemPlace),
      (∀ (j : Nat) t v, fn.params[j]? = some t → args[j]? = some v → Value.okWide C.prog W .any base t v) →
      DataW.TrodAll enc C.prog W 0 (fun _ => true) true fn.params.toList args.toList ds p →
      (DataW.weightsEach C.prog fn.params.toList ds).all (· ≤ reachBytes) = true →
      Calls C.prog f args W fun e W' => e = .returned (.bool true) ∧ Below W.heap.size W W') :
    ReturnsInHanded {} C os f .any (s.pre6 enc C.prog fn [] false) (s.post enc C.prog fn false true false false) := by
  refine returnsInHanded_of_change_sized own started noInit hfn witness ?_
  intro W base args ds gs before hval hW _ hsz _
  have hW' := hW
  obtain ⟨p, q, hA, hV, hpq, _, _⟩ := hW
  rw [hv] at hV
  obtain ⟨rfl, rfl⟩ := trodVars_none hV
  have hvt : s.plain.varTypes C.prog = [] := by
    have : s.plain.vars = [] := hv
    simp [DataSpec.varTypes, this]
  rw [hvt, List.append_nil, List.append_nil] at hsz
  refine (walk W base args ds p hval hA hsz).mono fun e W' ⟨he, hb⟩ => ?_
  subst he
  have hlen : ds.length = fn.params.size := by
    have : ∀ (ts : List TypeId) (vs : List Value) (ds : List (DataW H)) (ps : List MemPlace), DataW.TrodAll enc C.prog W 0 (fun _ => true) true ts vs ds ps → ds.length = ts.length := by
      intro ts
      induction ts with
      | nil => intro vs ds ps h; obtain ⟨_, rfl, _⟩ := trodAll_nil h; rfl
      | cons t ts ih => intro vs ds ps h; obtain ⟨_, _, _, _, _, _, _, rfl, _, _, h'⟩ := trodAll_cons h; simp [ih _ _ _ h']
    simpa using this _ _ _ _ hA
  exact ⟨_, rfl, law_post hl hv hr htb hts (hs ds hlen) hW' hb⟩

end Go.Proofs.YtgmdedkingampaaGreat
