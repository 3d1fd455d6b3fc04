/-
  Maps that the call itself has made, told by a function from keys to values; worlds that are as they were but for some blocks. No program in sight.
-/
import Derived.Test.YtabanackdjlcmaaLib2
import Derived.Maps.OwnSet
import Derived.Maps.OwnOps
import Derived.Maps.Ext
namespace Go.Proofs.Ytabanackdjlcmaa
open Go.ChangeShapes Go.WideShapes Go.ChangeAt Go.RowKit Go.Maps

/-- w' is w with new blocks, and with writes to the blocks of S alone. -/
structure Keep (S : Nat → Prop) (w w' : World) : Prop where
  os : w'.os = w.os
  tape : w'.tape = w.tape
  output : w'.output = w.output
  size : w.heap.size ≤ w'.heap.size
  block : ∀ k, k < w.heap.size → ¬ S k → w'.heap[k]? = w.heap[k]?
theorem Keep.refl (S : Nat → Prop) (w : World) : Keep S w w := ⟨rfl, rfl, rfl, Nat.le_refl _, fun _ _ _ => rfl⟩
theorem Keep.trans {S : Nat → Prop} {a b c : World} (h : Keep S a b) (k : Keep S b c) : Keep S a c :=
  ⟨k.os.trans h.os, k.tape.trans h.tape, k.output.trans h.output, Nat.le_trans h.size k.size, fun i hi hs => (k.block i (Nat.lt_of_lt_of_le hi h.size) hs).trans (h.block i hi hs)⟩
theorem Keep.mono {S T : Nat → Prop} {w w' : World} (h : Keep S w w') (hT : ∀ k, k < w.heap.size → S k → T k) : Keep T w w' :=
  ⟨h.os, h.tape, h.output, h.size, fun k hk hn => h.block k hk (fun hs => hn (hT k hk hs))⟩
theorem Below.keep {B : Nat} {w w' : World} {S : Nat → Prop} (h : Below B w w') (hS : ∀ k, k < w.heap.size → B ≤ k → S k) : Keep S w w' :=
  ⟨h.os, h.tape, h.output, h.size, fun k hk hn => h.block k (Nat.lt_of_not_le fun hB => hn (hS k hk hB))⟩
theorem Below.keep0 {w w' : World} (S : Nat → Prop) (h : Below w.heap.size w w') : Keep S w w' := Below.keep h (fun k hk hB => absurd hk (by omega))
theorem Keep.below {S : Nat → Prop} {w w' : World} {B : Nat} (h : Keep S w w') (hB : B ≤ w.heap.size) (hS : ∀ k, S k → B ≤ k) : Below B w w' :=
  ⟨h.os, h.tape, h.output, h.size, fun k hk => h.block k (by omega) (fun hs => by have := hS k hs; omega)⟩
theorem Keep.cell {S : Nat → Prop} {w w' : World} (h : Keep S w w') {p : Addr} {v : Value} (hc : w.cell? p = some v) (hp : ¬ S p.block) : w'.cell? p = some v :=
  (World.cell?_of_block (w := w) (h.block p.block (World.block_lt_of_cell? w _ hc) hp)).trans hc
theorem Keep.grown {S : Nat → Prop} {w w' : World} {row : Option Nat} (hg : w.grownBy w' row) (hr : ∀ k, row = some k → S k) : Keep S w w' :=
  ⟨hg.os, hg.tape, hg.output, hg.size, fun k hk hn => hg.block k hk (fun e => hn (hr k e.symm))⟩
theorem Keep.setCell {S : Nat → Prop} {a w : World} (h : Keep S a w) {p : Addr} (hp : S p.block ∨ a.heap.size ≤ p.block) (u : Value) : Keep S a (w.setCell p u) :=
  ⟨h.os, h.tape, h.output, by simpa [World.setCell] using h.size, fun k hk hn => by
    rw [Below.heap_setCell _ _ _ _ (by rintro rfl; rcases hp with hp | hp; exact hn hp; omega)]
    exact h.block k hk hn⟩
theorem Keep.alloc {S : Nat → Prop} {a w : World} (h : Keep S a w) (o : Obj) : Keep S a (w.alloc o) :=
  h.trans (Below.keep0 S ((Below.refl _ _).alloc (Nat.le_refl _) o))
theorem Keep.drew {S : Nat → Prop} {a w : World} (h : Keep S a w) : Keep S a w.drew := ⟨h.os, h.tape, h.output, h.size, h.block⟩
theorem Keep.drewN {S : Nat → Prop} {a w : World} (h : Keep S a w) (n : Nat) : Keep S a (w.drewN n) := ⟨h.os, h.tape, h.output, h.size, h.block⟩

/-- The block of a slice's elements is none of these. -/
def Off (S : Nat → Prop) (v : Value) : Prop := ∀ k, v.ownBlock = some k → ¬ S k
theorem SlR.keep {S : Nat → Prop} {w w' : World} {v : Value} {cs : List Value} (hk : Keep S w w') (h : SlR w v cs) (ho : Off S v) : SlR w' v cs := by
  obtain ⟨ao, c, hv, h1, h2, h3⟩ := h
  subst hv
  refine ⟨ao, c, rfl, h1, h2, fun i u hi => ?_⟩
  obtain ⟨a, rfl, hc⟩ := h3 i u hi
  refine ⟨a, rfl, hk.cell hc ?_⟩
  rw [block_add]
  exact ho _ rfl
theorem own_keepS {S : Nat → Prop} {w w' : World} (hk : Keep S w w') {base : Nat} {e : TypeId} {k : Nat} {v : Value} {n : Nat} {xs : List Value} (h : w.ownsRow base e k v n xs) (ho : Off S v) : w'.ownsRow base e k v n xs :=
  own_keep h (fun b hb => hk.block b (h.lt b hb).2 (ho b hb))

theorem own_some {w : World} {base : Nat} {e : TypeId} {v : Value} {n : Nat} {xs : List Value} (h : w.ownsRow base e 1 v n xs) (hn : v ≠ .slice none 0 0) : ∃ g cap, v = .slice (some ⟨g, 0, none⟩) n cap ∧ base ≤ g ∧ g < w.heap.size := by
  rcases h.2 with ⟨h0, _⟩ | ⟨g, cap, cur, rfl, hb, hg, _⟩
  · exact absurd h0 hn
  · exact ⟨g, cap, rfl, hb, (Array.getElem?_eq_some_iff.1 hg).1⟩
/-- How a map's element reads: as itself. -/
def heldR (v : Value) : Option (DataW Value × List MemPlace) := some (.held v, [])
/-- Block b is a map, of at most n entries, told by a function from keys to values. -/
def MapR (w : World) (P : Program) (k : TypeId) (b n : Nat) (f : Lit → Option Value) : Prop :=
  ∃ D : DataW Value, w.ownsMap P k heldR b n D ∧ IsMap D ∧ ∀ kl, (has D kl = (f kl).isSome) ∧ ∀ v, f kl = some v → ∀ z, D.atKey kl z = .held v
section
variable {P : Program} {k t e : TypeId} {b n : Nat} {f : Lit → Option Value} {w : World}
theorem MapR.made (w : World) (P : Program) (k : TypeId) : MapR (w.alloc (.map #[] 0)) P k w.heap.size 0 (fun _ => none) :=
  ⟨_, World.ownsMap_made w P k heldR, isMap_empty, fun kl => ⟨rfl, by simp⟩⟩
theorem MapR.lt (h : MapR w P k b n f) : b < w.heap.size := by obtain ⟨D, h, _⟩ := h; exact h.lt
theorem MapR.mono (h : MapR w P k b n f) {m : Nat} (hm : n ≤ m) : MapR w P k b m f := by obtain ⟨D, h, r⟩ := h; exact ⟨D, h.mono hm, r⟩
theorem MapR.same {w' : World} (h : MapR w P k b n f) (hb : w'.heap[b]? = w.heap[b]?) : MapR w' P k b n f := by
  obtain ⟨D, ⟨es, clock, h0, r⟩, r2⟩ := h
  exact ⟨D, ⟨es, clock, hb.trans h0, r⟩, r2⟩
theorem MapR.keep {S : Nat → Prop} {w' : World} (h : MapR w P k b n f) (hk : Keep S w w') (hb : ¬ S b) : MapR w' P k b n f := h.same (hk.block b h.lt hb)
theorem MapR.ext {g : Lit → Option Value} (h : MapR w P k b n f) (hg : ∀ kl, f kl = g kl) : MapR w P k b n g := by
  have : f = g := funext hg
  subst this; exact h
theorem MapR.look_ok (h : MapR w P k b n f) (K : Keyed P k) (ht : P.underlying t = some (.map k e)) {z : Value} (hz : (zeroValue e).run P w = .ok z w) {key : Value} {kl : Lit} (hkey : keyOf P k key = some kl) :
    (Instr.lookup t (.map (some b)) key true).run P w = .ok (.tuple #[(f kl).getD z, .bool (f kl).isSome]) w := by
  obtain ⟨D, hown, _, hf⟩ := h
  obtain ⟨v, ps, hrun, hv⟩ := hown.look_ok K ht hz (zd := .held z) (zp := []) rfl hkey
  rw [hrun, (hf kl).1]
  simp only [heldR, Option.some.injEq, Prod.mk.injEq] at hv
  have hv := hv.1
  cases hk : f kl with
  | none =>
    have : has D kl = false := by rw [(hf kl).1, hk]; rfl
    rw [atKey_of_not_has this] at hv
    cases hv; rfl
  | some u =>
    rw [(hf kl).2 u hk] at hv
    cases hv; rfl
theorem MapR.look (h : MapR w P k b n f) (K : Keyed P k) (ht : P.underlying t = some (.map k e)) {z : Value} (hz : (zeroValue e).run P w = .ok z w) {key : Value} {kl : Lit} (hkey : keyOf P k key = some kl) :
    (Instr.lookup t (.map (some b)) key false).run P w = .ok ((f kl).getD z) w := by
  obtain ⟨D, hown, _, hf⟩ := h
  obtain ⟨v, ps, hrun, hv⟩ := hown.lookup K ht hz (zd := .held z) (zp := []) rfl hkey
  rw [hrun]
  simp only [heldR, Option.some.injEq, Prod.mk.injEq] at hv
  have hv := hv.1
  cases hk : f kl with
  | none =>
    have : has D kl = false := by rw [(hf kl).1, hk]; rfl
    rw [atKey_of_not_has this] at hv
    cases hv; rfl
  | some u =>
    rw [(hf kl).2 u hk] at hv
    cases hv; rfl
open Classical in
/-- The function behind a store. -/
noncomputable def putF (f : Lit → Option Value) (kl : Lit) (v : Value) : Lit → Option Value := fun x => if x = kl then some v else f x
open Classical in
noncomputable def delF (f : Lit → Option Value) (kl : Lit) : Lit → Option Value := fun x => if x = kl then none else f x
theorem putF_self (f : Lit → Option Value) (kl : Lit) (v : Value) : putF f kl v kl = some v := by unfold putF; rw [if_pos rfl]
theorem putF_int (f : Lit → Option Value) (q : IntKind) (a b : Int) (v : Value) : putF f (.int q a) v (.int q b) = if b = a then some v else f (.int q b) := by
  unfold putF
  by_cases h : b = a
  · subst h; rw [if_pos rfl, if_pos rfl]
  · rw [if_neg h, if_neg (by intro e; cases e; exact h rfl)]
theorem delF_int (f : Lit → Option Value) (q : IntKind) (a b : Int) : delF f (.int q a) (.int q b) = if b = a then none else f (.int q b) := by
  unfold delF
  by_cases h : b = a
  · subst h; rw [if_pos rfl, if_pos rfl]
  · rw [if_neg h, if_neg (by intro e; cases e; exact h rfl)]
theorem MapR.store (h : MapR w P k b n f) (K : Keyed P k) (ht : P.underlying t = some (.map k e)) (hn : n < maxLen) {key val : Value} {kl : Lit} (hkey : keyOf P k key = some kl) (hkl : WideAt.IsKeyLit kl) :
    ∃ w', (Instr.mapUpdate t (.map (some b)) key val).run P w = .ok () w' ∧ MapR w' P k b (n + 1) (putF f kl val) ∧ w.grownBy w' (some b) := by
  obtain ⟨D, hown, hm, hf⟩ := h
  obtain ⟨w', hrun, h1, h2⟩ := hown.update K ht hn hkey (val := val) (d := .held val) (ps := []) rfl
  refine ⟨w', hrun, ⟨D.put kl (.held val), h1, hm.put _ _, fun x => ?_⟩, h2⟩
  unfold putF
  by_cases hx : x = kl
  · subst hx
    rw [if_pos rfl]
    exact ⟨has_put_same hm hkl _, fun v hv z => by cases hv; exact atKey_put_same hm hkl _ _⟩
  · rw [if_neg hx]
    exact ⟨by rw [has_put_other hx]; exact (hf x).1, fun v hv z => by rw [atKey_put_other hx]; exact (hf x).2 v hv z⟩
theorem MapR.drop (h : MapR w P k b n f) (K : Keyed P k) (ht : P.underlying t = some (.map k e)) {key : Value} {kl : Lit} (hkey : keyOf P k key = some kl) (ty : TypeId) :
    ∃ w', (Builtin.delete_ #[t, k] ty #[.map (some b), key]).run P w = .ok (.tuple #[]) w' ∧ MapR w' P k b n (delF f kl) ∧ w.grownBy w' (some b) := by
  obtain ⟨D, hown, hm, hf⟩ := h
  obtain ⟨w', hrun, h1, h2⟩ := hown.drop K ht hkey ty
  refine ⟨w', hrun, ⟨D.del kl, h1, hm.del _, fun x => ?_⟩, h2.grown⟩
  unfold delF
  by_cases hx : x = kl
  · subst hx
    rw [if_pos rfl]
    exact ⟨has_del_same, fun v hv => by cases hv⟩
  · rw [if_neg hx]
    exact ⟨by rw [has_del_other hx]; exact (hf x).1, fun v hv z => by rw [atKey_del_other hx]; exact (hf x).2 v hv z⟩
end
end Go.Proofs.Ytabanackdjlcmaa
