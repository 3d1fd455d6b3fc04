/-
  Slices of slices, of whatever number's kind. No program in sight.
-/
import Derived.Test.YtgmdedkingampaaGreatLib
import Derived.Maps.OwnSet
import Derived.Maps.OwnOps
import Derived.Maps.Ext
set_option linter.unusedVariables false
set_option linter.unusedSimpArgs false
namespace Go.Proofs.YtgmdedkingampaaGreat
open Go.ChangeShapes Go.WideShapes Go.ChangeAt Go.RowKit

theorem SlR.none {w : World} {n c : Nat} {cs : List Value} (h : SlR w (.slice none n c) cs) : cs = [] ∧ n = 0 := by
  obtain ⟨ao, c', hv, _, _, hx⟩ := h
  cases hv
  cases cs with
  | nil => exact ⟨rfl, rfl⟩
  | cons u r => obtain ⟨a, ha, _⟩ := hx 0 u rfl; cases ha
theorem SlR.len {w : World} {ao : Option Addr} {n c : Nat} {cs : List Value} (h : SlR w (.slice ao n c) cs) : n = cs.length := by
  obtain ⟨ao', c', hv, _⟩ := h
  cases hv; rfl
theorem SlR.cell {w : World} {a : Addr} {n c : Nat} {cs : List Value} (h : SlR w (.slice (some a) n c) cs) : ∀ j u, cs[j]? = some u → w.cell? (a.add j) = some u := by
  obtain ⟨ao', c', hv, _, _, hx⟩ := h
  cases hv
  intro j u hj
  obtain ⟨b, hb, hc⟩ := hx j u hj
  cases hb; exact hc
theorem SlR.form {w : World} {v : Value} {cs : List Value} (h : SlR w v cs) : ∃ ao c, v = .slice ao cs.length c ∧ cs.length ≤ c ∧ c ≤ 9223372036854775807 := by
  obtain ⟨ao, c, hv, h1, h2, _⟩ := h
  unfold maxLen at h2
  exact ⟨ao, c, hv, h1, by omega⟩

theorem run_append_none {P : Program} {w : World} {t ty e : TypeId} {i : TypeInfo} {base size : Nat} (ht : P.underlying t = some (.slice e)) (hi : P.info? e = some i)
    {v : Value} {n : Nat} {xs : List Value} (hown : w.ownsRow base e size v n xs) (c : Nat) :
    (Builtin.append_ #[t, t] ty #[v, .slice none 0 c]).run P w = .ok v w := by
  rcases hown.2 with ⟨rfl, rfl⟩ | ⟨g, cap, cur, rfl, _, _, hnc, _⟩
  · simp [Builtin.append_, run_underlying ht, sizeOf, typeInfo, hi, Builtin.lenOf, Builtin.firstCells]
  · simp [Builtin.append_, run_underlying ht, sizeOf, typeInfo, hi, Builtin.lenOf, Builtin.firstCells, hnc, storeCells]

/-- What 'append(out, src...)' leaves, out nil or the call's own, src whatever. -/
theorem run_appSrc {P : Program} {w : World} {t ty : TypeId} (base : Nat) (e : TypeId) (i : TypeInfo) (z : Value) (bytes : Nat) (ht : P.underlying t = some (.slice e)) (hi : P.info? e = some i) (hz : i.zero = some z)
    (hsize : i.size = 1) (hby : i.bytes = bytes) (hzs : z.cells.size = 1) (hb24 : bytes ≤ 32)
    {v src : Value} {n : Nat} {xs cs : List Value} (hown : w.ownsRow base e 1 v n xs) (hsrc : SlR w src cs) (hu : ∀ u ∈ cs, u.oneCell' = true)
    (hlen : n + cs.length ≤ 1099511627776) (hbase : base ≤ w.heap.size) :
    ∃ v' w', (Builtin.append_ #[t, t] ty #[v, src]).run P w = .ok v' w' ∧ w'.ownsRow base e 1 v' (n + cs.length) (xs ++ cs) ∧ Below base w w' ∧ (∀ g, v'.ownBlock = some g → v.ownBlock = some g ∨ w.heap.size ≤ g) ∧
      (∀ k, k < w.heap.size → some k ≠ v.ownBlock → w'.heap[k]? = w.heap[k]?) ∧ (v ≠ .slice none 0 0 → v' ≠ .slice none 0 0) := by
  obtain ⟨ao, c, rfl, h1, h2⟩ := hsrc.form
  cases ao with
  | none =>
    obtain ⟨rfl, _⟩ := hsrc.none
    exact ⟨v, w, run_append_none ht hi hown c, by simpa using hown, Below.refl _ _, fun g hg => Or.inl hg, fun k _ _ => rfl, fun h => h⟩
  | some ad =>
    obtain ⟨v', w', hr, h2, h3, h4, h5⟩ := run_append_own_at (P := P) w base t ty e i z 1 bytes ht hi hz hsize hby hzs (by omega) v n xs hown ad cs.length c cs (by simp) hsrc.cell hu (by unfold maxLen; omega)
      (by have := Nat.mul_le_mul_left (n + cs.length) hb24; omega) hbase
    refine ⟨v', w', hr, h2, (Below.refl _ _).grown h3 hbase (own_block hown), fun g hg => ?_, fun k hk hne => h3.block k hk hne, fun hv hv' => hv (h4.1 hv').1⟩
    rcases h5 with h5 | h5
    · left; rw [← h5]; exact hg
    · right; rw [h5] at hg; cases hg; exact Nat.le_refl _
theorem wp_appSrc {P : Program} {w : World} {o : Oper} {a : Act} {K : Act → World → Prop} {Q : Exit → Act → World → Prop} (s x : Operand) (t : TypeId)
    (ho : o.op = .call { callee := .builtin .append, args := #[s, x], argTypes := #[t, t] })
    (base : Nat) (e : TypeId) (i : TypeInfo) (z : Value) (bytes : Nat) (ht : P.underlying t = some (.slice e)) (hi : P.info? e = some i) (hz : i.zero = some z)
    (hsize : i.size = 1) (hby : i.bytes = bytes) (hzs : z.cells.size = 1) (hb24 : bytes ≤ 32)
    {v src : Value} {n : Nat} {xs cs : List Value} (hs : a.eval s = v) (hx : a.eval x = src) (hown : w.ownsRow base e 1 v n xs) (hsrc : SlR w src cs) (hu : ∀ u ∈ cs, u.oneCell' = true)
    (hlen : n + cs.length ≤ 1099511627776) (hbase : base ≤ w.heap.size)
    (h : ∀ v' w', w'.ownsRow base e 1 v' (n + cs.length) (xs ++ cs) → Below base w w' → (∀ g, v'.ownBlock = some g → v.ownBlock = some g ∨ w.heap.size ≤ g) →
      (∀ k, k < w.heap.size → some k ≠ v.ownBlock → w'.heap[k]? = w.heap[k]?) → (v ≠ .slice none 0 0 → v' ≠ .slice none 0 0) → K (a.put o.dst v') w') : o.wp P a w K Q := by
  obtain ⟨v', w', hr, h2, h3, h4, h5, h6⟩ := run_appSrc (P := P) (t := t) (ty := o.type) base e i z bytes ht hi hz hsize hby hzs hb24 hown hsrc hu hlen hbase
  unfold Oper.wp execOp
  simp only [ho, resolve, invoke, builtin, Sem.run_bind, Sem.run_pure, Result.andThen_ok, List.map_toArray, List.map_cons, List.map_nil, hs, hx, hr]
  exact h v' w' h2 h3 h4 h5 h6
theorem wpList_appSrc {P : Program} {w : World} {ops : Array Oper} {rest : List Oper} {o : Oper} {a : Act} {Q : Exit → Act → World → Prop} (hgd : o.guard = none) (s x : Operand) (t : TypeId)
    (ho : o.op = .call { callee := .builtin .append, args := #[s, x], argTypes := #[t, t] })
    (base : Nat) (e : TypeId) (i : TypeInfo) (z : Value) (bytes : Nat) (ht : P.underlying t = some (.slice e)) (hi : P.info? e = some i) (hz : i.zero = some z)
    (hsize : i.size = 1) (hby : i.bytes = bytes) (hzs : z.cells.size = 1) (hb24 : bytes ≤ 32)
    {v src : Value} {n : Nat} {xs cs : List Value} (hs : a.eval s = v) (hx : a.eval x = src) (hown : w.ownsRow base e 1 v n xs) (hsrc : SlR w src cs) (hu : ∀ u ∈ cs, u.oneCell' = true)
    (hlen : n + cs.length ≤ 1099511627776) (hbase : base ≤ w.heap.size)
    (h : ∀ v' w', w'.ownsRow base e 1 v' (n + cs.length) (xs ++ cs) → Below base w w' → (∀ g, v'.ownBlock = some g → v.ownBlock = some g ∨ w.heap.size ≤ g) →
      (∀ k, k < w.heap.size → some k ≠ v.ownBlock → w'.heap[k]? = w.heap[k]?) → (v ≠ .slice none 0 0 → v' ≠ .slice none 0 0) → wpList P ops Q rest (a.put o.dst v') w') : wpList P ops Q (o :: rest) a w :=
  wpList_plain hgd fun _ hK => wp_appSrc s x t ho base e i z bytes ht hi hz hsize hby hzs hb24 hs hx hown hsrc hu hlen hbase fun v' w' h2 h3 h4 h5 h6 => hK _ _ (h v' w' h2 h3 h4 h5 h6)
theorem step_appSrc {P : Program} {w : World} {ops : Array Oper} {o : Oper} {a : Act} {K : Act → World → Prop} {Q : Exit → Act → World → Prop} {E : Prop} (hgd : o.guard = none) (s x : Operand) (t : TypeId)
    (ho : o.op = .call { callee := .builtin .append, args := #[s, x], argTypes := #[t, t] })
    (base : Nat) (e : TypeId) (i : TypeInfo) (z : Value) (bytes : Nat) (ht : P.underlying t = some (.slice e)) (hi : P.info? e = some i) (hz : i.zero = some z)
    (hsize : i.size = 1) (hby : i.bytes = bytes) (hzs : z.cells.size = 1) (hb24 : bytes ≤ 32)
    {v src : Value} {n : Nat} {xs cs : List Value} (hs : a.eval s = v) (hx : a.eval x = src) (hown : w.ownsRow base e 1 v n xs) (hsrc : SlR w src cs) (hu : ∀ u ∈ cs, u.oneCell' = true)
    (hlen : n + cs.length ≤ 1099511627776) (hbase : base ≤ w.heap.size)
    (h : ∀ v' w', w'.ownsRow base e 1 v' (n + cs.length) (xs ++ cs) → Below base w w' → (∀ g, v'.ownBlock = some g → v.ownBlock = some g ∨ w.heap.size ≤ g) →
      (∀ k, k < w.heap.size → some k ≠ v.ownBlock → w'.heap[k]? = w.heap[k]?) → (v ≠ .slice none 0 0 → v' ≠ .slice none 0 0) → K (a.put o.dst v') w') : if Region.wanted o (yielded ops a.tmps) = true then Oper.wp P o a w K Q else E := by
  have hw : Region.wanted o (yielded ops a.tmps) = true := by simp [Region.wanted, hgd]
  rw [if_pos hw]
  exact wp_appSrc s x t ho base e i z bytes ht hi hz hsize hby hzs hb24 hs hx hown hsrc hu hlen hbase h
end Go.Proofs.YtgmdedkingampaaGreat

namespace Go.Proofs.YtgmdedkingampaaGreat
open Go.ChangeShapes Go.WideShapes Go.ChangeAt Go.RowKit Go.Maps

/-- w' is w with new blocks, and with writes to the blocks of S alone. -/
structure Keep (S : Nat → Prop) (w w' : World) : Prop where
  os : w'.os = w.os
  tape : w'.tape = w.tape
  output : w'.output = w.output
  size : w.heap.size ≤ w'.heap.size
  block : ∀ k, k < w.heap.size → ¬ S k → w'.heap[k]? = w.heap[k]?
theorem Keep.refl (S : Nat → Prop) (w : World) : Keep S w w := ⟨rfl, rfl, rfl, Nat.le_refl _, fun _ _ _ => rfl⟩
theorem Keep.trans {S : Nat → Prop} {a b c : World} (h : Keep S a b) (k : Keep S b c) : Keep S a c :=
  ⟨k.os.trans h.os, k.tape.trans h.tape, k.output.trans h.output, Nat.le_trans h.size k.size, fun i hi hs => (k.block i (Nat.lt_of_lt_of_le hi h.size) hs).trans (h.block i hi hs)⟩
theorem Keep.mono {S T : Nat → Prop} {w w' : World} (h : Keep S w w') (hT : ∀ k, k < w.heap.size → S k → T k) : Keep T w w' :=
  ⟨h.os, h.tape, h.output, h.size, fun k hk hn => h.block k hk (fun hs => hn (hT k hk hs))⟩
theorem Below.keep {B : Nat} {w w' : World} {S : Nat → Prop} (h : Below B w w') (hS : ∀ k, k < w.heap.size → B ≤ k → S k) : Keep S w w' :=
  ⟨h.os, h.tape, h.output, h.size, fun k hk hn => h.block k (Nat.lt_of_not_le fun hB => hn (hS k hk hB))⟩
theorem Below.keep0 {w w' : World} (S : Nat → Prop) (h : Below w.heap.size w w') : Keep S w w' := Below.keep h (fun k hk hB => absurd hk (by omega))
theorem Keep.below {S : Nat → Prop} {w w' : World} {B : Nat} (h : Keep S w w') (hB : B ≤ w.heap.size) (hS : ∀ k, S k → B ≤ k) : Below B w w' :=
  ⟨h.os, h.tape, h.output, h.size, fun k hk => h.block k (by omega) (fun hs => by have := hS k hs; omega)⟩
theorem Keep.cell {S : Nat → Prop} {w w' : World} (h : Keep S w w') {p : Addr} {v : Value} (hc : w.cell? p = some v) (hp : ¬ S p.block) : w'.cell? p = some v :=
  (World.cell?_of_block (w := w) (h.block p.block (World.block_lt_of_cell? w _ hc) hp)).trans hc
theorem Keep.grown {S : Nat → Prop} {w w' : World} {row : Option Nat} (hg : w.grownBy w' row) (hr : ∀ k, row = some k → S k) : Keep S w w' :=
  ⟨hg.os, hg.tape, hg.output, hg.size, fun k hk hn => hg.block k hk (fun e => hn (hr k e.symm))⟩
theorem Keep.setCell {S : Nat → Prop} {a w : World} (h : Keep S a w) {p : Addr} (hp : S p.block ∨ a.heap.size ≤ p.block) (u : Value) : Keep S a (w.setCell p u) :=
  ⟨h.os, h.tape, h.output, by simpa [World.setCell] using h.size, fun k hk hn => by
    rw [Below.heap_setCell _ _ _ _ (by rintro rfl; rcases hp with hp | hp; exact hn hp; omega)]
    exact h.block k hk hn⟩
theorem Keep.alloc {S : Nat → Prop} {a w : World} (h : Keep S a w) (o : Obj) : Keep S a (w.alloc o) :=
  h.trans (Below.keep0 S ((Below.refl _ _).alloc (Nat.le_refl _) o))
theorem Keep.drew {S : Nat → Prop} {a w : World} (h : Keep S a w) : Keep S a w.drew := ⟨h.os, h.tape, h.output, h.size, h.block⟩
theorem Keep.drewN {S : Nat → Prop} {a w : World} (h : Keep S a w) (n : Nat) : Keep S a (w.drewN n) := ⟨h.os, h.tape, h.output, h.size, h.block⟩

/-- The block of a slice's elements is none of these. -/
def Off (S : Nat → Prop) (v : Value) : Prop := ∀ k, v.ownBlock = some k → ¬ S k
theorem SlR.keep {S : Nat → Prop} {w w' : World} {v : Value} {cs : List Value} (hk : Keep S w w') (h : SlR w v cs) (ho : Off S v) : SlR w' v cs := by
  obtain ⟨ao, c, hv, h1, h2, h3⟩ := h
  subst hv
  refine ⟨ao, c, rfl, h1, h2, fun i u hi => ?_⟩
  obtain ⟨a, rfl, hc⟩ := h3 i u hi
  refine ⟨a, rfl, hk.cell hc ?_⟩
  rw [block_add]
  exact ho _ rfl
theorem own_keepS {S : Nat → Prop} {w w' : World} (hk : Keep S w w') {base : Nat} {e : TypeId} {k : Nat} {v : Value} {n : Nat} {xs : List Value} (h : w.ownsRow base e k v n xs) (ho : Off S v) : w'.ownsRow base e k v n xs :=
  own_keep h (fun b hb => hk.block b (h.lt b hb).2 (ho b hb))

theorem own_some {w : World} {base : Nat} {e : TypeId} {v : Value} {n : Nat} {xs : List Value} (h : w.ownsRow base e 1 v n xs) (hn : v ≠ .slice none 0 0) : ∃ g cap, v = .slice (some ⟨g, 0, none⟩) n cap ∧ base ≤ g ∧ g < w.heap.size := by
  rcases h.2 with ⟨h0, _⟩ | ⟨g, cap, cur, rfl, hb, hg, _⟩
  · exact absurd h0 hn
  · exact ⟨g, cap, rfl, hb, (Array.getElem?_eq_some_iff.1 hg).1⟩
/-- How a map's element reads: as itself. -/
def heldR (v : Value) : Option (DataW Value × List MemPlace) := some (.held v, [])
/-- Block b is a map, of at most n entries, told by a function from keys to values. -/
def MapR (w : World) (P : Program) (k : TypeId) (b n : Nat) (f : Lit → Option Value) : Prop :=
  ∃ D : DataW Value, w.ownsMap P k heldR b n D ∧ IsMap D ∧ ∀ kl, (has D kl = (f kl).isSome) ∧ ∀ v, f kl = some v → ∀ z, D.atKey kl z = .held v
section
variable {P : Program} {k t e : TypeId} {b n : Nat} {f : Lit → Option Value} {w : World}
theorem MapR.made (w : World) (P : Program) (k : TypeId) : MapR (w.alloc (.map #[] 0)) P k w.heap.size 0 (fun _ => none) :=
  ⟨_, World.ownsMap_made w P k heldR, isMap_empty, fun kl => ⟨rfl, by simp⟩⟩
theorem MapR.lt (h : MapR w P k b n f) : b < w.heap.size := by obtain ⟨D, h, _⟩ := h; exact h.lt
theorem MapR.mono (h : MapR w P k b n f) {m : Nat} (hm : n ≤ m) : MapR w P k b m f := by obtain ⟨D, h, r⟩ := h; exact ⟨D, h.mono hm, r⟩
theorem MapR.same {w' : World} (h : MapR w P k b n f) (hb : w'.heap[b]? = w.heap[b]?) : MapR w' P k b n f := by
  obtain ⟨D, ⟨es, clock, h0, r⟩, r2⟩ := h
  exact ⟨D, ⟨es, clock, hb.trans h0, r⟩, r2⟩
theorem MapR.keep {S : Nat → Prop} {w' : World} (h : MapR w P k b n f) (hk : Keep S w w') (hb : ¬ S b) : MapR w' P k b n f := h.same (hk.block b h.lt hb)
theorem MapR.ext {g : Lit → Option Value} (h : MapR w P k b n f) (hg : ∀ kl, f kl = g kl) : MapR w P k b n g := by
  have : f = g := funext hg
  subst this; exact h
theorem MapR.look_ok (h : MapR w P k b n f) (K : Keyed P k) (ht : P.underlying t = some (.map k e)) {z : Value} (hz : (zeroValue e).run P w = .ok z w) {key : Value} {kl : Lit} (hkey : keyOf P k key = some kl) :
    (Instr.lookup t (.map (some b)) key true).run P w = .ok (.tuple #[(f kl).getD z, .bool (f kl).isSome]) w := by
  obtain ⟨D, hown, _, hf⟩ := h
  obtain ⟨v, ps, hrun, hv⟩ := hown.look_ok K ht hz (zd := .held z) (zp := []) rfl hkey
  rw [hrun, (hf kl).1]
  simp only [heldR, Option.some.injEq, Prod.mk.injEq] at hv
  have hv := hv.1
  cases hk : f kl with
  | none =>
    have : has D kl = false := by rw [(hf kl).1, hk]; rfl
    rw [atKey_of_not_has this] at hv
    cases hv; rfl
  | some u =>
    rw [(hf kl).2 u hk] at hv
    cases hv; rfl
theorem MapR.look (h : MapR w P k b n f) (K : Keyed P k) (ht : P.underlying t = some (.map k e)) {z : Value} (hz : (zeroValue e).run P w = .ok z w) {key : Value} {kl : Lit} (hkey : keyOf P k key = some kl) :
    (Instr.lookup t (.map (some b)) key false).run P w = .ok ((f kl).getD z) w := by
  obtain ⟨D, hown, _, hf⟩ := h
  obtain ⟨v, ps, hrun, hv⟩ := hown.lookup K ht hz (zd := .held z) (zp := []) rfl hkey
  rw [hrun]
  simp only [heldR, Option.some.injEq, Prod.mk.injEq] at hv
  have hv := hv.1
  cases hk : f kl with
  | none =>
    have : has D kl = false := by rw [(hf kl).1, hk]; rfl
    rw [atKey_of_not_has this] at hv
    cases hv; rfl
  | some u =>
    rw [(hf kl).2 u hk] at hv
    cases hv; rfl
open Classical in
/-- The function behind a store. -/
noncomputable def putF (f : Lit → Option Value) (kl : Lit) (v : Value) : Lit → Option Value := fun x => if x = kl then some v else f x
open Classical in
noncomputable def delF (f : Lit → Option Value) (kl : Lit) : Lit → Option Value := fun x => if x = kl then none else f x
theorem putF_self (f : Lit → Option Value) (kl : Lit) (v : Value) : putF f kl v kl = some v := by unfold putF; rw [if_pos rfl]
theorem putF_int (f : Lit → Option Value) (q : IntKind) (a b : Int) (v : Value) : putF f (.int q a) v (.int q b) = if b = a then some v else f (.int q b) := by
  unfold putF
  by_cases h : b = a
  · subst h; rw [if_pos rfl, if_pos rfl]
  · rw [if_neg h, if_neg (by intro e; cases e; exact h rfl)]
theorem delF_int (f : Lit → Option Value) (q : IntKind) (a b : Int) : delF f (.int q a) (.int q b) = if b = a then none else f (.int q b) := by
  unfold delF
  by_cases h : b = a
  · subst h; rw [if_pos rfl, if_pos rfl]
  · rw [if_neg h, if_neg (by intro e; cases e; exact h rfl)]
theorem MapR.store (h : MapR w P k b n f) (K : Keyed P k) (ht : P.underlying t = some (.map k e)) (hn : n < maxLen) {key val : Value} {kl : Lit} (hkey : keyOf P k key = some kl) (hkl : WideAt.IsKeyLit kl) :
    ∃ w', (Instr.mapUpdate t (.map (some b)) key val).run P w = .ok () w' ∧ MapR w' P k b (n + 1) (putF f kl val) ∧ w.grownBy w' (some b) := by
  obtain ⟨D, hown, hm, hf⟩ := h
  obtain ⟨w', hrun, h1, h2⟩ := hown.update K ht hn hkey (val := val) (d := .held val) (ps := []) rfl
  refine ⟨w', hrun, ⟨D.put kl (.held val), h1, hm.put _ _, fun x => ?_⟩, h2⟩
  unfold putF
  by_cases hx : x = kl
  · subst hx
    rw [if_pos rfl]
    exact ⟨has_put_same hm hkl _, fun v hv z => by cases hv; exact atKey_put_same hm hkl _ _⟩
  · rw [if_neg hx]
    exact ⟨by rw [has_put_other hx]; exact (hf x).1, fun v hv z => by rw [atKey_put_other hx]; exact (hf x).2 v hv z⟩
theorem MapR.drop (h : MapR w P k b n f) (K : Keyed P k) (ht : P.underlying t = some (.map k e)) {key : Value} {kl : Lit} (hkey : keyOf P k key = some kl) (ty : TypeId) :
    ∃ w', (Builtin.delete_ #[t, k] ty #[.map (some b), key]).run P w = .ok (.tuple #[]) w' ∧ MapR w' P k b n (delF f kl) ∧ w.grownBy w' (some b) := by
  obtain ⟨D, hown, hm, hf⟩ := h
  obtain ⟨w', hrun, h1, h2⟩ := hown.drop K ht hkey ty
  refine ⟨w', hrun, ⟨D.del kl, h1, hm.del _, fun x => ?_⟩, h2.grown⟩
  unfold delF
  by_cases hx : x = kl
  · subst hx
    rw [if_pos rfl]
    exact ⟨has_del_same, fun v hv => by cases hv⟩
  · rw [if_neg hx]
    exact ⟨by rw [has_del_other hx]; exact (hf x).1, fun v hv z => by rw [atKey_del_other hx]; exact (hf x).2 v hv z⟩
end
end Go.Proofs.YtgmdedkingampaaGreat

namespace Go.Proofs.YtgmdedkingampaaGreat
open Go.ChangeShapes Go.WideShapes Go.ChangeAt Go.RowKit Go.Maps

abbrev u8s (xs : List Int) : List Value := xs.map (Value.int .u8)
/-- Numbers of a byte. -/
def U8 (xs : List Int) : Prop := ∀ x ∈ xs, 0 ≤ x ∧ x ≤ 255
theorem u8_of_wf {xs : List Int} (h : ∀ x ∈ xs, (Lit.int .u8 x).wf = true) : U8 xs := fun x hx => by
  have := h x hx
  simp [Lit.wf, IntKind.min, IntKind.max, IntKind.signed, IntKind.bits] at this
  omega
theorem u8s_one (xs : List Int) : ∀ u ∈ u8s xs, u.oneCell' = true := by intro u hu; simp at hu; obtain ⟨n, _, rfl⟩ := hu; rfl
/-- The text of these bytes. -/
def strB (xs : List Int) : ByteArray := ⟨(xs.map fun n => UInt8.ofNat n.toNat).toArray⟩
theorem strB_list (xs : List Int) : (strB xs).data.toList = xs.map fun n => UInt8.ofNat n.toNat := by simp [strB]
theorem strB_size (xs : List Int) : (strB xs).size = xs.length := by simp [strB, ByteArray.size]
theorem strB_inj {xs ys : List Int} (hx : U8 xs) (hy : U8 ys) (h : strB xs = strB ys) : xs = ys := by
  have h1 : xs.map (fun n => UInt8.ofNat n.toNat) = ys.map (fun n => UInt8.ofNat n.toNat) := by
    rw [← strB_list, ← strB_list, h]
  have hl := congrArg List.length h1
  simp only [List.length_map] at hl
  apply List.ext_getElem hl
  intro i h2 h3
  have h4 := congrArg (fun l => l[i]?) h1
  simp only [List.getElem?_map, List.getElem?_eq_getElem h2, List.getElem?_eq_getElem h3, Option.map_some, Option.some.injEq] at h4
  have h5 := congrArg UInt8.toNat h4
  have a1 := hx _ (List.getElem_mem h2)
  have a2 := hy _ (List.getElem_mem h3)
  rw [UInt8.toNat_ofNat', UInt8.toNat_ofNat'] at h5
  omega
theorem strB_beq {xs ys : List Int} (hx : U8 xs) (hy : U8 ys) : ((strB xs).toList == (strB ys).toList) = (xs == ys) := by
  rw [Bool.eq_iff_iff, beq_iff_eq, beq_iff_eq]
  constructor
  · intro h
    refine strB_inj hx hy ?_
    have h1 : (strB xs).data.toList = (strB ys).data.toList := by
      have := h
      rwa [ByteArray.toList_eq, ByteArray.toList_eq] at this
    have : (strB xs).data = (strB ys).data := Array.toList_inj.1 h1
    cases hxs : strB xs; cases hys : strB ys
    rw [hxs, hys] at this
    simp at this; subst this; rfl
  · intro h; rw [h]

theorem foldl_push_strB : ∀ (ns : List Int) (s : ByteArray), ns.foldl (fun r n => r.push (UInt8.ofNat n.toNat)) s = ⟨s.data ++ (ns.map fun n => UInt8.ofNat n.toNat).toArray⟩
  | [], s => by simp
  | n :: ns, s => by
    simp only [List.foldl_cons]
    rw [foldl_push_strB ns]
    simp [ByteArray.push]
/-- 'string(b)'. -/
theorem run_strB {P : Program} {w : World} {src dst e : TypeId} (hs : P.underlying src = some (.slice e)) (he : P.underlying e = some (.int .u8)) (hd : P.underlying dst = some .string)
    {v : Value} {xs : List Int} (h : SlR w v (u8s xs)) : (convert src dst v).run P w = .ok (.string (strB xs)) w := by
  obtain ⟨ao, c, rfl, h1, h2⟩ := h.form
  rw [run_convert_bytes_string w src dst e ao _ c hs he hd]
  cases ao with
  | none =>
    obtain ⟨h0, _⟩ := h.none
    have : xs = [] := by simpa using h0
    subst this
    simp [Conv.bytesToString, strB, Sem.run_pure]
    rfl
  | some a =>
    have hload := run_firstCells_some (P := P) w 1 (u8s xs).length a (u8s xs).length c (u8s xs) (by simp) h.cell
    have hl : (loadCells a (u8s xs).length).run P w = .ok (u8s xs).toArray w := by
      simpa [Builtin.firstCells] using hload
    rw [run_bytesToString w a _ c xs hl, foldl_push_strB]
    simp [strB]
end Go.Proofs.YtgmdedkingampaaGreat

namespace Go.Proofs.YtgmdedkingampaaGreat
open Go.ChangeShapes Go.WideShapes Go.ChangeAt Go.RowKit Go.Maps

/-- These values are slices that read as these lists. -/
def ValsK (w : World) (k : IntKind) (vs : List Value) (L : List (List Int)) : Prop := vs.length = L.length ∧ ∀ (i : Nat) u r, vs[i]? = some u → L[i]? = some r → SlR w u (r.map (Value.int k))
/-- A slice of slices that reads as rows of numbers. -/
def RowsK (w : World) (k : IntKind) (v : Value) (L : List (List Int)) : Prop := ∃ vs, SlR w v vs ∧ ValsK w k vs L
theorem ValsK.nil (w : World) (k : IntKind) : ValsK w k [] [] := ⟨rfl, by simp⟩
theorem ValsK.below {B : Nat} {w w' : World} {k : IntKind} {vs : List Value} {L : List (List Int)} (h : ValsK w k vs L) (hb : Below B w w') (hB : w.heap.size ≤ B) : ValsK w' k vs L :=
  ⟨h.1, fun i u r hu hr => (h.2 i u r hu hr).below hb hB⟩
theorem ValsK.keep {S : Nat → Prop} {w w' : World} {k : IntKind} {vs : List Value} {L : List (List Int)} (h : ValsK w k vs L) (hk : Keep S w w') (ho : ∀ u ∈ vs, Off S u) : ValsK w' k vs L :=
  ⟨h.1, fun i u r hu hr => (h.2 i u r hu hr).keep hk (ho u (List.mem_of_getElem? hu))⟩
theorem ValsK.snoc {w : World} {k : IntKind} {vs : List Value} {L : List (List Int)} {u : Value} {r : List Int} (h : ValsK w k vs L) (hu : SlR w u (r.map (Value.int k))) : ValsK w k (vs ++ [u]) (L ++ [r]) := by
  refine ⟨by simp [h.1], fun i u' r' h1 h2 => ?_⟩
  rw [List.getElem?_append] at h1 h2
  rw [h.1] at h1
  split at h1
  · rename_i hk; rw [if_pos hk] at h2; exact h.2 i u' r' h1 h2
  · rename_i hk; rw [if_neg hk] at h2
    have : i - L.length = 0 := by have := (List.getElem?_eq_some_iff.1 h1).1; simp at this; omega
    rw [this] at h1 h2
    simp at h1 h2
    subst h1; subst h2; exact hu
theorem ValsK.one {w : World} {k : IntKind} {vs : List Value} {L : List (List Int)} (h : ValsK w k vs L) : ∀ u ∈ vs, u.oneCell' = true := by
  intro u hu
  obtain ⟨i, hi, rfl⟩ := List.getElem_of_mem hu
  obtain ⟨ao, c, e, _⟩ := (h.2 i _ _ (List.getElem?_eq_getElem hi) (List.getElem?_eq_getElem (by have := h.1; omega))).form
  rw [e]; rfl
theorem RowsK.below {B : Nat} {w w' : World} {k : IntKind} {v : Value} {L : List (List Int)} (hb : Below B w w') (hB : w.heap.size ≤ B) (h : RowsK w k v L) : RowsK w' k v L := by
  obtain ⟨vs, h1, h2⟩ := h
  exact ⟨vs, h1.below hb hB, h2.below hb hB⟩
theorem RowsK.nil (w : World) (k : IntKind) : RowsK w k (.slice none 0 0) [] := ⟨[], SlR.nil w, ValsK.nil w k⟩
/-- What one needs in a walk of it. -/
theorem RowsK.row {w : World} {k : IntKind} {v : Value} {L : List (List Int)} (h : RowsK w k v L) : ∃ ao c, v = .slice ao L.length c ∧ L.length ≤ c ∧ c ≤ 9223372036854775807 ∧
    ∀ (i : Nat) (hi : i < L.length), ∃ a u, ao = some a ∧ w.cell? (a.add i) = some u ∧ SlR w u (L[i].map (Value.int k)) := by
  obtain ⟨vs, h1, h2⟩ := h
  obtain ⟨ao, c, hv, hc, hm, hx⟩ := h1
  unfold maxLen at hm
  refine ⟨ao, c, by rw [hv, h2.1], by rw [← h2.1]; exact hc, by omega, fun i hi => ?_⟩
  have hi' : i < vs.length := by rw [h2.1]; exact hi
  obtain ⟨a, ha, hc⟩ := hx i _ (List.getElem?_eq_getElem hi')
  exact ⟨a, _, ha, hc, h2.2 i _ _ (List.getElem?_eq_getElem hi') (List.getElem?_eq_getElem hi)⟩
/-- No element lies in the row's own block, each in a block that is. -/
def OffRow (w : World) (o : Value) (vs : List Value) : Prop := ∀ u ∈ vs, ∀ k, u.ownBlock = some k → o.ownBlock ≠ some k ∧ k < w.heap.size
theorem OffRow.nil (w : World) (o : Value) : OffRow w o [] := fun u hu => by cases hu

/-- From what lies in the cells. -/
theorem RowsK.of_cells {W : World} {k : IntKind} {v : Value}
    (h : ∃ ao c L, v = .slice ao (List.length L) c ∧ List.length L ≤ c ∧ c ≤ maxLen ∧ ∀ (i : Nat) r, L[i]? = some r → ∃ a u, ao = some a ∧ W.cell? (a.add i) = some u ∧ SlR W u (List.map (Value.int k) r)) :
    ∃ L, RowsK W k v L := by
  obtain ⟨ao, c, L, rfl, h1, h2, hx⟩ := h
  refine ⟨L, ?_⟩
  cases ao with
  | none =>
    have hL : L = [] := by
      cases L with
      | nil => rfl
      | cons r R => obtain ⟨a, u, ha, _⟩ := hx 0 r rfl; cases ha
    subst hL
    exact ⟨[], ⟨none, c, rfl, h1, h2, by simp⟩, rfl, by simp⟩
  | some a =>
    refine ⟨(List.range L.length).map fun i => (W.cell? (a.add i)).getD undef, ⟨some a, c, by simp, by simpa using h1, h2, fun i u hi => ⟨a, rfl, ?_⟩⟩, by simp, fun i u r hu hr => ?_⟩
    · have hl : i < L.length := by have := (List.getElem?_eq_some_iff.1 hi).1; simpa using this
      obtain ⟨a', u', ha, hc, _⟩ := hx i _ (List.getElem?_eq_getElem hl)
      cases ha
      simp [hl, hc] at hi
      rw [hc, hi]
    · obtain ⟨a', u', ha, hc, hs⟩ := hx i r hr
      cases ha
      have hl : i < L.length := (List.getElem?_eq_some_iff.1 hr).1
      simp [hl, hc] at hu
      rw [← hu]; exact hs
/-- A slice of slices of numbers among the arguments. -/
theorem arg_rowsK {H : Type} {enc : TypeId × Value → H} {P : Program} {W : World} {t e q : TypeId} {k : IntKind} {v : Value} {d : DataW H} {ps : List MemPlace} {r : Reach} {b0 : Nat}
    (ht : P.underlying t = some (.slice e)) (he : P.underlying e = some (.slice q)) (hq : P.underlying q = some (.int k)) (ce : P.cellsOf e = 1) (cq : P.cellsOf q = 1) (hval : Value.okWide P W r b0 t v)
    (h : DataW.Trod enc P W 0 (fun _ => true) true t v d ps) : ∃ L : List (List Int), RowsK W k v L ∧ ∀ r ∈ L, ∀ x ∈ r, (Lit.int k x).wf = true := by
  obtain ⟨a0, len0, cap0, rfl⟩ := WideShapes.okWide_slice ht hval
  obtain ⟨fuel, hf⟩ := h
  rcases Deep.open_int_rows ht he hq ce cq hf with ⟨hcs, _⟩ | ⟨a, len, cap, A, Ln, C, Z, hcs, _, hl, hm, _, hr⟩
  · simp [Value.cells] at hcs
    obtain ⟨rfl, rfl, rfl⟩ := hcs
    exact ⟨[], RowsK.nil W k, by simp⟩
  · simp [Value.cells] at hcs
    obtain ⟨rfl, rfl, rfl⟩ := hcs
    refine ⟨(List.range len0).map fun r => (Z r).take (Ln r), ⟨(List.range len0).map fun r => .slice (A r) (Ln r) (C r), ⟨some a, cap0, by simp, by simpa using hl, hm, fun i u hi => ?_⟩, by simp, fun i u r hu hi => ?_⟩, fun r hi => ?_⟩
    · have hi2 : i < len0 := by have := (List.getElem?_eq_some_iff.1 hi).1; simpa using this
      simp [hi2] at hi
      subst hi
      exact ⟨a, rfl, (hr i (by omega)).1⟩
    · have hi2 : i < len0 := by have := (List.getElem?_eq_some_iff.1 hi).1; simpa using this
      simp [hi2] at hi hu
      subst hi hu
      obtain ⟨h1, h2, h3, h4, h5, h6, h7⟩ := hr i (by omega)
      cases hA : A i with
      | none =>
        have hC := h6 hA
        have hZ : Z i = [] := List.eq_nil_of_length_eq_zero (by omega)
        have hL : Ln i = 0 := by omega
        rw [hZ, hL, hC]
        exact SlR.nil W
      | some a' => exact SlR.of_cells h2 h3 h4 (fun c hc => (h7 a' hA).2 c (by omega))
    · obtain ⟨j, hj, rfl⟩ := List.mem_map.1 hi
      exact fun x hx => (hr j (by have := List.mem_range.1 hj; omega)).2.2.2.2.1 x (List.mem_of_mem_take hx)
end Go.Proofs.YtgmdedkingampaaGreat
