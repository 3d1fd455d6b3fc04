/-
  slices.Clone of bytes.
-/
import Derived.Test.YtgmdedkingampaaGreatLib5
import Derived.Test.YtgmdedkingampaaGreatProg
import Derived.Deep.OwnRows
set_option linter.unusedVariables false
set_option linter.unusedSimpArgs false
namespace Go.Proofs.YtgmdedkingampaaGreat
open Go.ChangeShapes Go.WideShapes Go.ChangeAt Go.RowKit Go.Maps

theorem add_more (a : Addr) (i j : Nat) (hj : 0 < j) : (⟨(a.add i).block, (a.add i).off + j, none⟩ : Addr) = a.add (i + j) := by
  obtain ⟨j, rfl⟩ : ∃ k, j = k + 1 := ⟨j - 1, by omega⟩
  rw [show i + (j + 1) = (i + j) + 1 by omega, Addr.add_succ']
  unfold Addr.add
  by_cases h : i = 0
  · rw [if_pos h]; subst h; simp
  · rw [if_neg h]; simp; omega
/-- 'append(out, u)': one element of some cells, laid in a new block. -/
theorem wpList_appS {P : Program} {w : World} {ops : Array Oper} {rest : List Oper} {o : Oper} {a : Act} {Q : Exit → Act → World → Prop} (hgd : o.guard = none) (s x : Operand) (t : TypeId)
    (ho : o.op = .call { callee := .builtin .append, args := #[s, x], argTypes := #[t, t] })
    (base : Nat) (e : TypeId) (i : TypeInfo) (z : Value) (size bytes : Nat) (ht : P.underlying t = some (.slice e)) (hi : P.info? e = some i) (hz : i.zero = some z)
    (hsize : i.size = size) (hby : i.bytes = bytes) (hzs : z.cells.size = size) (hsz : 0 < size) (hb64 : bytes ≤ 64)
    {v : Value} {n : Nat} {xs : List Value} {us : Array Value} {c B : Nat} {e' : TypeId} {fr : Nat × Nat} (hs : a.eval s = v) (hx : a.eval x = .slice (some ⟨B, 0, none⟩) 1 c) (hB : w.heap.size = B) (hm : us.toList.length = size) (hown : w.ownsRow base e size v n xs) (hu : ∀ u ∈ us.toList, u.oneCell' = true)
    (hlen : n ≤ 1099511627776) (hbase : base ≤ w.heap.size)
    (h : ∀ g cap w', w'.ownsRow base e size (.slice (some ⟨g, 0, none⟩) (n + 1) cap) (n + 1) (xs ++ us.toList) → (w.alloc (.cells us e' fr)).grownBy w' v.ownBlock → (v.ownBlock = some g ∨ g = w.heap.size + 1) →
      wpList P ops Q rest (a.put o.dst (.slice (some ⟨g, 0, none⟩) (n + 1) cap)) w') : wpList P ops Q (o :: rest) a (w.alloc (.cells us e' fr)) := by
  subst hB
  refine wpList_append_lies _ hgd s x t ho base e i z size bytes ht hi hz hsize hby hzs hsz v n xs hs (hown.alloc _) ⟨w.heap.size, 0, none⟩ 1 c us.toList hx (by omega) (World.news_of_block (heap_alloc_new w _)) hu (by decide) (by unfold maxLen; omega)
    (by have := Nat.mul_le_mul_left (n + 1) hb64; omega) (by simp; omega) _ rfl ?_
  intro g cap w' h1 h2 h3 _
  exact h g cap w' h1 h2 (by simpa using h3)
theorem own_form {w : World} {base : Nat} {e : TypeId} {size : Nat} {v : Value} {n : Nat} {xs : List Value} (h : w.ownsRow base e size v n xs) : ∃ ao c, v = .slice ao n c ∧ n ≤ c ∧ c ≤ 9223372036854775807 := by
  rcases h.2 with ⟨rfl, h0⟩ | ⟨g, cap, cur, rfl, hb, hg, h1, h2, _⟩
  · exact ⟨none, 0, by rw [h0], by omega, by omega⟩
  · unfold maxLen at h2; exact ⟨_, cap, rfl, h1, by omega⟩
end Go.Proofs.YtgmdedkingampaaGreat

namespace Go.Proofs.YtgmdedkingampaaGreat
open Go.ChangeShapes Go.WideShapes Go.ChangeAt Go.RowKit Go.Maps

/-- A thing: its blocks, and what it is in a world. -/
structure Ob where
  foot : Nat → Prop
  inv : World → Prop
structure Ob.Good (o : Ob) : Prop where
  keep : ∀ {S : Nat → Prop} {w w' : World}, o.inv w → Keep S w w' → (∀ k, S k → ¬ o.foot k) → o.inv w'
  lt : ∀ {w : World}, o.inv w → ∀ k, o.foot k → k < w.heap.size
/-- They lie apart, all behind a mark. -/
structure Sep (B : Nat) (w : World) (os : List Ob) : Prop where
  good : ∀ o ∈ os, o.Good
  inv : ∀ o ∈ os, o.inv w
  base : ∀ o ∈ os, ∀ k, o.foot k → B ≤ k
  apart : os.Pairwise (fun a b => ∀ k, a.foot k → ¬ b.foot k)
  size : B ≤ w.heap.size
section
variable {B : Nat} {w w' : World} {os : List Ob}
theorem Sep.nil (h : B ≤ w.heap.size) : Sep B w [] := ⟨by simp, by simp, by simp, List.Pairwise.nil, h⟩
theorem Sep.get (h : Sep B w os) (i : Nat) {o : Ob} (hi : os[i]? = some o) : o.inv w := h.inv o (List.mem_of_getElem? hi)
theorem Sep.lt (h : Sep B w os) (i : Nat) {o : Ob} (hi : os[i]? = some o) : ∀ k, o.foot k → B ≤ k ∧ k < w.heap.size := fun k hk =>
  ⟨h.base o (List.mem_of_getElem? hi) k hk, (h.good o (List.mem_of_getElem? hi)).lt (h.inv o (List.mem_of_getElem? hi)) k hk⟩
theorem Sep.two (h : Sep B w os) {i j : Nat} {a b : Ob} (hij : i ≠ j) (hi : os[i]? = some a) (hj : os[j]? = some b) : ∀ k, a.foot k → ¬ b.foot k := by
  have hp := List.pairwise_iff_getElem.1 h.apart
  obtain ⟨hi1, rfl⟩ := List.getElem?_eq_some_iff.1 hi
  obtain ⟨hj1, rfl⟩ := List.getElem?_eq_some_iff.1 hj
  intro k h1 h2
  rcases Nat.lt_or_gt_of_ne hij with hlt | hlt
  · exact hp i j hi1 hj1 hlt k h1 h2
  · exact hp j i hj1 hi1 hlt k h2 h1
theorem Sep.step (h : Sep B w os) (hb : Below w.heap.size w w') : Sep B w' os :=
  ⟨h.good, fun o ho => (h.good o ho).keep (h.inv o ho) (Below.keep0 (fun _ => False) hb) (fun k hk => hk.elim), h.base, h.apart, Nat.le_trans h.size hb.size⟩
theorem Sep.sub {l : List Ob} (h : Sep B w os) (hl : l.Sublist os) : Sep B w l :=
  ⟨fun o ho => h.good o (hl.subset ho), fun o ho => h.inv o (hl.subset ho), fun o ho => h.base o (hl.subset ho), h.apart.sublist hl, h.size⟩
/-- The order plays no part. -/
theorem Sep.perm {l : List Ob} (h : Sep B w os) (hl : os.Perm l) : Sep B w l :=
  ⟨fun o ho => h.good o (hl.mem_iff.2 ho), fun o ho => h.inv o (hl.mem_iff.2 ho), fun o ho => h.base o (hl.mem_iff.2 ho), (hl.pairwise_iff (fun hab k hb ha => hab k ha hb)).1 h.apart, h.size⟩
/-- A new thing. -/
theorem Sep.new (h : Sep B w os) {o : Ob} (hb : Below w.heap.size w w') (g : o.Good) (hi : o.inv w') (hf : ∀ k, o.foot k → w.heap.size ≤ k) : Sep B w' (o :: os) := by
  have h' := h.step hb
  refine ⟨fun x hx => ?_, fun x hx => ?_, fun x hx k hk => ?_, List.Pairwise.cons (fun x hx k hk hk2 => ?_) h'.apart, h'.size⟩
  · rcases List.mem_cons.1 hx with rfl | hx
    · exact g
    · exact h.good x hx
  · rcases List.mem_cons.1 hx with rfl | hx
    · exact hi
    · exact h'.inv x hx
  · rcases List.mem_cons.1 hx with rfl | hx
    · have := hf k hk; have := h.size; omega
    · exact h.base x hx k hk
  · have := hf k hk; have := (h.good x hx).lt (h.inv x hx) k hk2; omega
/-- The first thing turns. -/
theorem Sep.head {o o' : Ob} (h : Sep B w (o :: os)) (hk : Keep o.foot w w') (g : o'.Good) (hi : o'.inv w') (hf : ∀ k, o'.foot k → o.foot k ∨ w.heap.size ≤ k) : Sep B w' (o' :: os) := by
  have hap := List.pairwise_cons.1 h.apart
  refine ⟨fun x hx => ?_, fun x hx => ?_, fun x hx k hk => ?_, List.Pairwise.cons (fun x hx k hk1 hk2 => ?_) hap.2, Nat.le_trans h.size hk.size⟩
  · rcases List.mem_cons.1 hx with rfl | hx
    · exact g
    · exact h.good x (List.mem_cons_of_mem _ hx)
  · rcases List.mem_cons.1 hx with rfl | hx
    · exact hi
    · exact (h.good x (List.mem_cons_of_mem _ hx)).keep (h.inv x (List.mem_cons_of_mem _ hx)) hk (fun k hk => hap.1 x hx k hk)
  · rcases List.mem_cons.1 hx with rfl | hx
    · rcases hf k hk with e | e
      · exact h.base o (List.mem_cons_self ..) k e
      · have := h.size; omega
    · exact h.base x (List.mem_cons_of_mem _ hx) k hk
  · rcases hf k hk1 with e | e
    · exact hap.1 x hx k e hk2
    · have := (h.good x (List.mem_cons_of_mem _ hx)).lt (h.inv x (List.mem_cons_of_mem _ hx)) k hk2; omega
/-- The first two things become one. -/
theorem Sep.join {a b o' : Ob} (h : Sep B w (a :: b :: os)) (hk : Keep (fun k => a.foot k ∨ b.foot k) w w') (g : o'.Good) (hi : o'.inv w') (hf : ∀ k, o'.foot k → (a.foot k ∨ b.foot k) ∨ w.heap.size ≤ k) : Sep B w' (o' :: os) := by
  have hap := List.pairwise_cons.1 h.apart
  have hap2 := List.pairwise_cons.1 hap.2
  have hor : ∀ x ∈ os, ∀ k, (a.foot k ∨ b.foot k) → ¬ x.foot k := fun x hx k hk => by
    rcases hk with e | e
    · exact hap.1 x (List.mem_cons_of_mem _ hx) k e
    · exact hap2.1 x hx k e
  have hm : ∀ x ∈ os, x ∈ a :: b :: os := fun x hx => List.mem_cons_of_mem _ (List.mem_cons_of_mem _ hx)
  refine ⟨fun x hx => ?_, fun x hx => ?_, fun x hx k hk => ?_, List.Pairwise.cons (fun x hx k hk1 hk2 => ?_) hap2.2, Nat.le_trans h.size hk.size⟩
  · rcases List.mem_cons.1 hx with rfl | hx
    · exact g
    · exact h.good x (hm x hx)
  · rcases List.mem_cons.1 hx with rfl | hx
    · exact hi
    · exact (h.good x (hm x hx)).keep (h.inv x (hm x hx)) hk (fun k hk => hor x hx k hk)
  · rcases List.mem_cons.1 hx with rfl | hx
    · rcases hf k hk with (e | e) | e
      · exact h.base a (by simp) k e
      · exact h.base b (by simp) k e
      · have := h.size; omega
    · exact h.base x (hm x hx) k hk
  · rcases hf k hk1 with e | e
    · exact hor x hx k e hk2
    · have := (h.good x (hm x hx)).lt (h.inv x (hm x hx)) k hk2; omega
/-- What lies ahead of the mark is as it was, where the first thing turned. -/
theorem Sep.below {o : Ob} {W : World} (h : Sep W.heap.size w (o :: os)) (hb : Below W.heap.size W w) (hk : Keep o.foot w w') : Below W.heap.size W w' :=
  hb.trans (hk.below h.size (fun k hk => h.base o (by simp) k hk))
end

theorem front_perm {α : Type} {l : List α} {i : Nat} {a : α} (h : l[i]? = some a) : l.Perm (a :: l.eraseIdx i) := by
  induction l generalizing i with
  | nil => simp at h
  | cons x r ih =>
    cases i with
    | zero => simp at h; subst h; exact List.Perm.refl _
    | succ i => exact ((ih (by simpa using h)).cons x).trans (List.Perm.swap _ _ _)
theorem set_perm {α : Type} {l : List α} {i : Nat} {a : α} (b : α) (h : l[i]? = some a) : (b :: l.eraseIdx i).Perm (l.set i b) := by
  induction l generalizing i with
  | nil => simp at h
  | cons x r ih =>
    cases i with
    | zero => exact List.Perm.refl _
    | succ i => exact (List.Perm.swap _ _ _).trans ((ih (by simpa using h)).cons x)
/-- One thing comes to the front. -/
theorem Sep.front {B : Nat} {w : World} {os : List Ob} (h : Sep B w os) (i : Nat) {o : Ob} (hi : os[i]? = some o) : Sep B w (o :: os.eraseIdx i) := h.perm (front_perm hi)
/-- One thing turns, where it stands. -/
theorem Sep.set {B : Nat} {w w' : World} {os : List Ob} (h : Sep B w os) (i : Nat) {o o' : Ob} (hi : os[i]? = some o) (hk : Keep o.foot w w') (g : o'.Good) (hi' : o'.inv w') (hf : ∀ k, o'.foot k → o.foot k ∨ w.heap.size ≤ k) : Sep B w' (os.set i o') :=
  ((h.front i hi).head hk g hi' hf).perm (set_perm o' hi)
/-- What is below the mark stays where one thing turns. -/
theorem Sep.belowAt {W w w' : World} {os : List Ob} (h : Sep W.heap.size w os) (hb : Below W.heap.size W w) (i : Nat) {o : Ob} (hi : os[i]? = some o) (hk : Keep o.foot w w') : Below W.heap.size W w' :=
  hb.trans (hk.below h.size (fun k hf => h.base o (List.mem_of_getElem? hi) k hf))

/-- A slice of the call's own. -/
def obRow (v : Value) (e : TypeId) (size n : Nat) (xs : List Value) : Ob := ⟨fun k => v.ownBlock = some k, fun w => w.ownsRow 0 e size v n xs⟩
theorem obRow_good (v : Value) (e : TypeId) (size n : Nat) (xs : List Value) : (obRow v e size n xs).Good :=
  ⟨fun h hk hs => own_keepS hk h (fun k hv hS => hs k hS hv), fun h k hk => (h.lt k hk).2⟩
/-- A block that is known whole. -/
def obBlk (b : Nat) (o : Obj) : Ob := ⟨fun k => k = b, fun w => w.heap[b]? = some o⟩
theorem obBlk_good (b : Nat) (o : Obj) : (obBlk b o).Good :=
  ⟨fun {S w w'} h hk hs => (hk.block b (Array.getElem?_eq_some_iff.1 h).1 (fun e => hs b e rfl)).trans h, fun {w} h k hk => by cases hk; exact (Array.getElem?_eq_some_iff.1 h).1⟩
/-- Behind an append of one element to a slice of one's own: worlds but for its block. -/
theorem keep_app {base : Nat} {w w' : World} {v : Value} (hb : Below base w w') (hk : ∀ k, k < w.heap.size → some k ≠ v.ownBlock → w'.heap[k]? = w.heap[k]?) : Keep (fun k => v.ownBlock = some k) w w' :=
  ⟨hb.os, hb.tape, hb.output, hb.size, fun k hk' hn => hk k hk' (fun e => hn e.symm)⟩
theorem own_shrink {w : World} {base : Nat} {e : TypeId} {g m c : Nat} {xs : List Value} (h : w.ownsRow base e 1 (.slice (some ⟨g, 0, none⟩) (m + 1) c) (m + 1) xs) : w.ownsRow base e 1 (.slice (some ⟨g, 0, none⟩) m c) m (xs.take m) := by
  obtain ⟨h1, h2⟩ := h
  rcases h2 with ⟨hn, _⟩ | ⟨g', cap, cur, hv, hb, hg, hnc, hcm, hcs, htake⟩
  · cases hn
  · cases hv
    refine ⟨by simp; omega, Or.inr ⟨g, c, cur, rfl, hb, hg, by omega, hcm, hcs, ?_⟩⟩
    rw [← htake, List.take_take]
    congr 1; omega
end Go.Proofs.YtgmdedkingampaaGreat

namespace Go.Proofs.YtgmdedkingampaaGreat
open Go.ChangeShapes Go.WideShapes Go.ChangeAt Go.RowKit Go.Maps
set_option maxRecDepth 100000
set_option linter.unusedVariables false
set_option linter.unusedSimpArgs false

def U1 (x : Int) : Prop := 0 ≤ x ∧ x ≤ 18446744073709551615
theorem uKeyed : Keyed Tryz.prog 39 := int_keyed Tryz.underlying39
theorem u_key {a : Int} (h : U1 a) : keyOf Tryz.prog 39 (.int .u64 a) = some (.int .u64 a) :=
  keyOf_int_mk Tryz.underlying39 (by obtain ⟨h1, h2⟩ := h; simp [Lit.wf, IntKind.min, IntKind.max, IntKind.signed, IntKind.bits]; omega)
theorem Tryz.byteInfo : (Tryz.prog.info? 5).map (fun i => (i.zero, i.size, i.bytes)) = some (some (.int .u8 0), 1, 1) := by kernel_rfl
/-- The object's blocks may grow; others stay. -/
structure Moved (D D' : Nat → Prop) (w w' : World) : Prop where
  keep : Keep D w w'
  sub : ∀ k, D k → D' k
  new : ∀ k, D' k → D k ∨ w.heap.size ≤ k
theorem Moved.refl (D : Nat → Prop) (w : World) : Moved D D w w := ⟨Keep.refl _ _, fun _ h => h, fun _ h => Or.inl h⟩
theorem Moved.of {D : Nat → Prop} {w w' : World} (h : Keep D w w') : Moved D D w w' := ⟨h, fun _ h => h, fun _ h => Or.inl h⟩
theorem Moved.trans {D D' D'' : Nat → Prop} {w w' w'' : World} (h : Moved D D' w w') (k : Moved D' D'' w' w'') : Moved D D'' w w'' :=
  ⟨⟨k.keep.os.trans h.keep.os, k.keep.tape.trans h.keep.tape, k.keep.output.trans h.keep.output, Nat.le_trans h.keep.size k.keep.size, fun i hi hd => (k.keep.block i (Nat.lt_of_lt_of_le hi h.keep.size) (fun hd' => by
    rcases h.new i hd' with e | e
    · exact hd e
    · omega)).trans (h.keep.block i hi hd)⟩, fun i hd => k.sub i (h.sub i hd), fun i hd => by
    rcases k.new i hd with e | e
    · exact h.new i e
    · exact Or.inr (Nat.le_trans h.keep.size e)⟩
theorem Moved.below {D D' : Nat → Prop} {w w' : World} {B : Nat} (h : Moved D D' w w') (hD : ∀ k, D k → B ≤ k) (hB : B ≤ w.heap.size) : Below B w w' ∧ ∀ k, D' k → B ≤ k :=
  ⟨h.keep.below hB hD, fun k hk => by
    rcases h.new k hk with e | e
    · exact hD k e
    · omega⟩
theorem SlR.setOther {w : World} {v : Value} {cs : List Value} (h : SlR w v cs) {p : Addr} {old : Value} (hp : w.cell? p = some old) (ho : ∀ u ∈ cs, u ≠ old) (u : Value) : SlR (w.setCell p u) v cs := by
  obtain ⟨ao, c, rfl, h1, h2, hx⟩ := h
  refine ⟨ao, c, rfl, h1, h2, fun i x hi => ?_⟩
  obtain ⟨a, ha, hc⟩ := hx i x hi
  refine ⟨a, ha, (World.cell?_setCell_other _ _ _ _ ?_).trans hc⟩
  intro e
  rw [e] at hp
  rw [hp] at hc
  exact ho x (List.mem_of_getElem? hi) (by cases hc; rfl)
theorem u8s_ne {xs : List Int} {old : Value} (h : ∀ x, old ≠ .int .u8 x) : ∀ u ∈ u8s xs, u ≠ old := by
  intro u hu e
  obtain ⟨x, _, rfl⟩ := List.mem_map.1 hu
  exact h x e.symm
theorem nodup_le {l K : List Int} (h : l.Nodup) (hs : ∀ x ∈ l, x ∈ K) : l.length ≤ K.length := by
  induction l generalizing K with
  | nil => simp
  | cons a r ih =>
    have hn := List.nodup_cons.1 h
    have ha := hs a (by simp)
    have := ih (K := K.erase a) hn.2 (fun x hx => by
      have hne : x ≠ a := fun e => hn.1 (e ▸ hx)
      exact (List.mem_erase_of_ne hne).2 (hs x (by simp [hx])))
    rw [List.length_erase_of_mem ha] at this
    have hp := List.length_pos_of_mem ha
    simp only [List.length_cons]
    omega
/-- Things of the call's own; what was there ahead of the call is as it was. -/
structure SepW (W w : World) (os : List Ob) : Prop where
  sep : Sep W.heap.size w os
  below : Below W.heap.size W w
section
variable {W w w' : World} {os : List Ob}
theorem SepW.nil (h : Below W.heap.size W w) : SepW W w [] := ⟨Sep.nil h.size, h⟩
theorem SepW.get (h : SepW W w os) (i : Nat) {o : Ob} (hi : os[i]? = some o) : o.inv w := h.sep.get i hi
theorem SepW.step (h : SepW W w os) (hb : Below w.heap.size w w') : SepW W w' os := ⟨h.sep.step hb, h.below.trans (hb.mono h.below.size)⟩
theorem SepW.new (h : SepW W w os) {o : Ob} (hb : Below w.heap.size w w') (g : o.Good) (hi : o.inv w') (hf : ∀ k, o.foot k → w.heap.size ≤ k) : SepW W w' (o :: os) := ⟨h.sep.new hb g hi hf, h.below.trans (hb.mono h.below.size)⟩
theorem SepW.sub {l : List Ob} (h : SepW W w os) (hl : l.Sublist os) : SepW W w l := ⟨h.sep.sub hl, h.below⟩
theorem SepW.set (h : SepW W w os) (i : Nat) {o o' : Ob} (hi : os[i]? = some o) (hk : Keep o.foot w w') (g : o'.Good) (hi' : o'.inv w') (hf : ∀ k, o'.foot k → o.foot k ∨ w.heap.size ≤ k) : SepW W w' (os.set i o') :=
  ⟨h.sep.set i hi hk g hi' hf, h.sep.belowAt h.below i hi hk⟩
/-- One thing turns within its own blocks, another is made. -/
theorem Sep.setNew {B : Nat} (h : Sep B w os) (i : Nat) {o o' n : Ob} (hi : os[i]? = some o) (hk : Keep o.foot w w') (g : o'.Good) (hi' : o'.inv w') (hf : ∀ k, o'.foot k → o.foot k) (hn : Sep w.heap.size w' [n]) : Sep B w' (n :: os.set i o') := by
  have hs := h.set i hi hk g hi' (fun k hk => Or.inl (hf k hk))
  have hnm : n ∈ [n] := by simp
  refine ⟨fun x hx => ?_, fun x hx => ?_, fun x hx k hk => ?_, List.Pairwise.cons (fun x hx k hk1 hk2 => ?_) hs.apart, hs.size⟩
  · rcases List.mem_cons.1 hx with rfl | hx
    · exact hn.good _ hnm
    · exact hs.good x hx
  · rcases List.mem_cons.1 hx with rfl | hx
    · exact hn.inv _ hnm
    · exact hs.inv x hx
  · rcases List.mem_cons.1 hx with rfl | hx
    · have := hn.base _ hnm k hk; have := h.size; omega
    · exact hs.base x hx k hk
  · have hge := hn.base _ hnm k hk1
    rcases List.mem_or_eq_of_mem_set hx with hx | rfl
    · have := (h.good x hx).lt (h.inv x hx) k hk2; omega
    · have hm := List.mem_of_getElem? hi
      have := (h.good o hm).lt (h.inv o hm) k (hf k hk2); omega
theorem SepW.setNew (h : SepW W w os) (i : Nat) {o o' n : Ob} (hi : os[i]? = some o) (hk : Keep o.foot w w') (g : o'.Good) (hi' : o'.inv w') (hf : ∀ k, o'.foot k → o.foot k) (hn : Sep w.heap.size w' [n]) : SepW W w' (n :: os.set i o') :=
  ⟨h.sep.setNew i hi hk g hi' hf hn, h.sep.belowAt h.below i hi hk⟩
end
/-- Rows that rise and have the same numbers are one. -/
theorem rise_unique : ∀ {a b : List Int}, a.Pairwise (· < ·) → b.Pairwise (· < ·) → (∀ x, x ∈ a ↔ x ∈ b) → a = b
  | [], [], _, _, _ => rfl
  | [], y :: b, _, _, h => by have := (h y).2 (by simp); simp at this
  | x :: a, [], _, _, h => by have := (h x).1 (by simp); simp at this
  | x :: a, y :: b, ha, hb, h => by
    obtain ⟨ha1, ha2⟩ := List.pairwise_cons.1 ha
    obtain ⟨hb1, hb2⟩ := List.pairwise_cons.1 hb
    have e : x = y := by
      rcases List.mem_cons.1 ((h x).1 (by simp)) with e | hx
      · exact e
      · rcases List.mem_cons.1 ((h y).2 (by simp)) with e | hy
        · exact e.symm
        · have := hb1 x hx; have := ha1 y hy; omega
    subst e
    have : a = b := rise_unique ha2 hb2 (fun z => by
      have hz := h z
      simp only [List.mem_cons] at hz
      constructor
      · intro hm
        have hlt := ha1 z hm
        rcases hz.1 (Or.inr hm) with e | hb
        · omega
        · exact hb
      · intro hm
        have hlt := hb1 z hm
        rcases hz.2 (Or.inr hm) with e | hb
        · omega
        · exact hb)
    rw [this]
/-- Where the one at k stands. -/
theorem filter_at (p : Nat → Bool) {M k : Nat} (hk : k < M) (hp : p k = true) : ((List.range M).filter p)[((List.range k).filter p).length]? = some k := by
  have e : List.range M = List.range k ++ k :: (List.range' (k + 1) (M - k - 1)) := by
    rw [List.range_eq_range', List.range_eq_range']
    have h1 : M = k + (1 + (M - k - 1)) := by omega
    conv => lhs; rw [h1]
    rw [← List.range'_append_1, ← List.range'_append_1 (s := 0 + k)]
    simp [List.range'_succ]
  rw [e, List.filter_append, List.getElem?_append_right (by omega), Nat.sub_self, List.filter_cons, if_pos hp]
  rfl
theorem filter_succ (p : Nat → Bool) (k : Nat) : ((List.range (k + 1)).filter p).length = ((List.range k).filter p).length + (if p k then 1 else 0) := by
  rw [List.range_succ, List.filter_append, List.length_append]
  cases h : p k <;> simp [h]
theorem lit_u8 (w : World) (a : List Int) (t : TypeId) (fr : Nat × Nat) (ha : a.length ≤ 1000) : SlR (w.alloc (.cells (u8s a).toArray t fr)) (.slice (some ⟨w.heap.size, 0, none⟩) a.length a.length) (u8s a) := by
  have h : (w.alloc (.cells (u8s a).toArray t fr)).heap[w.heap.size]? = some (.cells (u8s a).toArray t fr) := heap_alloc_new w _
  refine ⟨some ⟨w.heap.size, 0, none⟩, a.length, by simp, by simp, by unfold maxLen; omega, fun i u hi => ⟨_, rfl, ?_⟩⟩
  exact World.news_of_block h i u (by simpa using hi)
theorem below_lit (w : World) (o : Obj) : Below w.heap.size w (w.alloc o) := (Below.refl _ _).alloc (Nat.le_refl _) _
section
variable {W w w' : World} {os : List Ob}
theorem SepW.blk (h : SepW W w os) {b : Nat} {cs : Array Value} {t : TypeId} (i : Nat) (hi : os[i]? = some (obBlk b (.cells cs t))) (j : Nat) (u : Value) (hu : cs.toList[j]? = some u) : w.cell? ⟨b, j, none⟩ = some u ∧ w.frozen? ⟨b, j, none⟩ = false := by
  have hb : w.heap[b]? = some (.cells cs t (0, 0)) := h.get i hi
  refine ⟨by simpa [World.cell?, hb] using hu, by simp [World.frozen?, hb]⟩
theorem SepW.newBlk (h : SepW W w os) (cs : Array Value) (t : TypeId) : SepW W (w.alloc (.cells cs t)) (obBlk w.heap.size (.cells cs t) :: os) :=
  h.new (below_lit w (.cells cs t)) (obBlk_good w.heap.size (.cells cs t)) (heap_alloc_new w _) (fun q hq => by rw [show q = w.heap.size from hq]; exact Nat.le_refl _)
theorem SepW.blkSet3 (h : SepW W w os) {b : Nat} {a0 a1 a2 : Value} {t : TypeId} (i : Nat) (hi : os[i]? = some (obBlk b (.cells #[a0, a1, a2] t))) (v0 v1 v2 : Value) :
    SepW W (((w.setCell ⟨b, 0, none⟩ v0).setCell ⟨b, 1, none⟩ v1).setCell ⟨b, 2, none⟩ v2) (os.set i (obBlk b (.cells #[v0, v1, v2] t))) := by
  have hb : w.heap[b]? = some (.cells #[a0, a1, a2] t (0, 0)) := h.get i hi
  have b1 := heap_setCell_same w b 0 _ _ v0 hb
  have b2 := heap_setCell_same _ b 1 _ _ v1 b1
  have b3 := heap_setCell_same _ b 2 _ _ v2 b2
  refine h.set i hi (((Keep.refl (fun q => q = b) w).setCell (p := ⟨b, 0, none⟩) (Or.inl rfl) v0).setCell (p := ⟨b, 1, none⟩) (Or.inl rfl) v1 |>.setCell (p := ⟨b, 2, none⟩) (Or.inl rfl) v2) (obBlk_good ..) ?_ (fun k hk => Or.inl hk)
  show (((w.setCell ⟨b, 0, none⟩ v0).setCell ⟨b, 1, none⟩ v1).setCell ⟨b, 2, none⟩ v2).heap[b]? = _
  simpa using b3
theorem SepW.blkSet (h : SepW W w os) {b : Nat} {cs : Array Value} {t : TypeId} (i : Nat) (hi : os[i]? = some (obBlk b (.cells cs t))) (j : Nat) (v : Value) :
    SepW W (w.setCell ⟨b, j, none⟩ v) (os.set i (obBlk b (.cells (cs.setIfInBounds j v) t))) := by
  have hb : w.heap[b]? = some (.cells cs t (0, 0)) := h.get i hi
  exact h.set i hi ((Keep.refl (fun q => q = b) w).setCell (p := ⟨b, j, none⟩) (Or.inl rfl) v) (obBlk_good ..) (heap_setCell_same w b j _ _ v hb) (fun k hk => Or.inl hk)
theorem SepW.drew (h : SepW W w os) : SepW W w.drew os := h.step (Below.refl _ _).drew
theorem SepW.drewN (h : SepW W w os) (n : Nat) : SepW W (w.drewN n) os := h.step (below_drewN (Below.refl _ _) n)
theorem SepW.perm {l : List Ob} (h : SepW W w os) (hl : os.Perm l) : SepW W w l := ⟨h.sep.perm hl, h.below⟩
theorem SepW.row (h : SepW W w os) (i : Nat) {v : Value} {e : TypeId} {n : Nat} {xs : List Value} (hi : os[i]? = some (obRow v e 1 n xs)) : SlR w v xs := SlR.of_own (h.get i hi : w.ownsRow 0 e 1 v n xs)
theorem SepW.newRow (h : SepW W w os) {v : Value} {e : TypeId} {z n : Nat} {xs : List Value} (ho : w'.ownsRow w.heap.size e z v n xs) (hb : Below w.heap.size w w') : SepW W w' (obRow v e z n xs :: os) :=
  h.new hb (obRow_good ..) (ho.weaken (Nat.zero_le _)) (fun k hk => (ho.lt k hk).1)
/-- An element joins a row of the call's own. -/
theorem SepW.rowApp (h : SepW W w os) (i : Nat) {v : Value} {e : TypeId} {z n n' g cap : Nat} {xs ys : List Value} {o : Obj} (hi : os[i]? = some (obRow v e z n xs)) (hg : (w.alloc o).grownBy w' v.ownBlock) (hor : v.ownBlock = some g ∨ g = w.heap.size + 1)
    (hown : w'.ownsRow 0 e z (.slice (some ⟨g, 0, none⟩) n' cap) n' ys) : SepW W w' (os.set i (obRow (.slice (some ⟨g, 0, none⟩) n' cap) e z n' ys)) := by
  have hk : Keep (fun k => v.ownBlock = some k) w w' := (Below.keep0 _ ((Below.refl _ _).alloc (Nat.le_refl _) o)).trans (Keep.grown hg (fun k hk => hk))
  refine h.set i hi hk (obRow_good ..) hown (fun k hk' => ?_)
  have e1 : g = k := by simpa [obRow, Value.ownBlock] using hk'
  subst e1
  rcases hor with e | e
  · exact Or.inl e
  · exact Or.inr (by omega)
/-- A block's cell that was there ahead of the call is of none of its own things. -/
theorem SepW.out (h : SepW W w os) (i : Nat) {o : Ob} (hi : os[i]? = some o) {k : Nat} (hk : k < W.heap.size) : ¬ o.foot k := fun hf => by
  have := h.sep.base o (List.mem_of_getElem? hi) k hf
  omega
end
/-- A slice's elements lie where cells are known. -/
theorem SlR.ownLt {w : World} {v : Value} {cs : List Value} (h : SlR w v cs) (hne : cs ≠ []) : ∀ k, v.ownBlock = some k → k < w.heap.size := by
  obtain ⟨ao, c, rfl, h1, h2, hx⟩ := h
  intro k hk
  cases cs with
  | nil => exact absurd rfl hne
  | cons u r =>
    obtain ⟨a, rfl, hc⟩ := hx 0 u rfl
    have := World.block_lt_of_cell? w _ hc
    rw [block_add] at this
    cases hk
    exact this
theorem SlR.keepE {S : Nat → Prop} {w w' : World} {v : Value} {cs : List Value} (hk : Keep S w w') (h : SlR w v cs) (ho : cs ≠ [] → Off S v) : SlR w' v cs := by
  by_cases he : cs = []
  · subst he
    obtain ⟨ao, c, hv, h1, h2, _⟩ := h
    exact ⟨ao, c, hv, h1, h2, by simp⟩
  · exact h.keep hk (ho he)
/-- What lay there ahead of the call lies off the call's own things. -/
theorem SepW.offArg {W w : World} {os : List Ob} (h : SepW W w os) (i : Nat) {o : Ob} (hi : os[i]? = some o) {v : Value} {cs : List Value} (hs : SlR W v cs) : cs ≠ [] → ∀ k, v.ownBlock = some k → ¬ o.foot k :=
  fun hne k hk => h.out i hi (hs.ownLt hne k hk)
section
variable {W w w' : World} {os : List Ob}
/-- One thing turns; a row is made behind it. -/
theorem SepW.setRow (h : SepW W w os) (i : Nat) {o o' : Ob} (hi : os[i]? = some o) (hk : Keep o.foot w w') (g : o'.Good) (hi' : o'.inv w') (hf : ∀ k, o'.foot k → o.foot k ∨ w.heap.size ≤ k) {base z n : Nat} {e : TypeId} {v : Value} {xs : List Value}
    (ho : w'.ownsRow base e z v n xs) (hb : w.heap.size ≤ base) (hd : ∀ k, o'.foot k → k < base) : SepW W w' (obRow v e z n xs :: os.set i o') := by
  have hs := h.set i hi hk g hi' hf
  refine ⟨⟨fun x hx => ?_, fun x hx => ?_, fun x hx k hk => ?_, List.Pairwise.cons (fun x hx k hk1 hk2 => ?_) hs.sep.apart, hs.sep.size⟩, hs.below⟩
  · rcases List.mem_cons.1 hx with rfl | hx
    · exact obRow_good ..
    · exact hs.sep.good x hx
  · rcases List.mem_cons.1 hx with rfl | hx
    · exact ho.weaken (Nat.zero_le _)
    · exact hs.sep.inv x hx
  · rcases List.mem_cons.1 hx with rfl | hx
    · have := (ho.lt k hk).1; have := h.sep.size; omega
    · exact hs.sep.base x hx k hk
  · have hge := (ho.lt k hk1).1
    rcases List.mem_or_eq_of_mem_set hx with hx | rfl
    · have := (h.sep.good x hx).lt (h.sep.inv x hx) k hk2; omega
    · have := hd k hk2; omega
end
theorem add_zero_off (g n : Nat) : (⟨g, 0, none⟩ : Addr).add n = ⟨g, n, none⟩ := by unfold Addr.add; split <;> simp_all
theorem own_lit (w : World) (xs : List Value) (e : TypeId) (hl : xs.length ≤ 1000) : (w.alloc (.cells xs.toArray e)).ownsRow w.heap.size e 1 (.slice (some ⟨w.heap.size, 0, none⟩) xs.length xs.length) xs.length xs :=
  ⟨by simp, Or.inr ⟨w.heap.size, xs.length, xs.toArray, rfl, Nat.le_refl _, heap_alloc_new w _, Nat.le_refl _, by unfold maxLen; omega, by simp, by simp⟩⟩
section
variable {W w w' : World} {os : List Ob}
theorem SepW.litRow (h : SepW W w os) (xs : List Value) (e : TypeId) (hl : xs.length ≤ 1000) : SepW W (w.alloc (.cells xs.toArray e)) (obRow (.slice (some ⟨w.heap.size, 0, none⟩) xs.length xs.length) e 1 xs.length xs :: os) :=
  h.newRow (own_lit w xs e hl) (below_lit w _)
end
theorem Tryz.boolInfo : (Tryz.prog.info? 4).map (fun i => (i.zero, i.size, i.bytes)) = some (some (.bool false), 1, 1) := by kernel_rfl
/-- A block of M cells, told by a function. -/
def obArr (LB M : Nat) (e : TypeId) (g : Nat → Value) : Ob := obBlk LB (.cells ((List.range M).map g).toArray e)
theorem obArr_good (LB M : Nat) (e : TypeId) (g : Nat → Value) : (obArr LB M e g).Good := obBlk_good ..
theorem arr_made (z : Value) (M : Nat) : madeCells #[z] M = ((List.range M).map fun _ => z).toArray := by
  apply Array.ext
  · simp [madeCells]
  · intro i h1 h2
    simp [madeCells, Nat.mod_one]
theorem arr_set (g : Nat → Value) {M j : Nat} (hj : j < M) (v : Value) : ((List.range M).map g).toArray.setIfInBounds j v = ((List.range M).map (fun i => if i = j then v else g i)).toArray := by
  rw [List.setIfInBounds_toArray]
  congr 1
  apply List.ext_getElem?
  intro i
  rw [List.getElem?_set]
  simp only [List.length_map, List.length_range, List.getElem?_map]
  by_cases e : j = i
  · subst e
    rw [if_pos rfl, if_pos hj, List.getElem?_range hj]; simp
  · rw [if_neg e]
    by_cases hi : i < M
    · rw [List.getElem?_range hi]; simp [Ne.symm e]
    · rw [List.getElem?_eq_none (by simpa using hi)]; rfl
section
variable {W w : World} {os : List Ob} {LB M : Nat} {e : TypeId} {g : Nat → Value}
theorem SepW.arrCell (h : SepW W w os) (i : Nat) (hi : os[i]? = some (obArr LB M e g)) {j : Nat} (hj : j < M) : w.cell? ⟨LB, j, none⟩ = some (g j) ∧ w.frozen? ⟨LB, j, none⟩ = false := by
  have hb : w.heap[LB]? = some (.cells ((List.range M).map g).toArray e (0, 0)) := h.get i hi
  refine ⟨by simp [World.cell?, hb, hj], by simp [World.frozen?, hb]⟩
theorem SepW.arrSet (h : SepW W w os) (i : Nat) (hi : os[i]? = some (obArr LB M e g)) {j : Nat} (hj : j < M) (v : Value) : SepW W (w.setCell ⟨LB, j, none⟩ v) (os.set i (obArr LB M e (fun i => if i = j then v else g i))) := by
  have hb : w.heap[LB]? = some (.cells ((List.range M).map g).toArray e (0, 0)) := h.get i hi
  refine h.set i hi (Keep.setCell (S := fun q => q = LB) (Keep.refl _ _) (p := ⟨LB, j, none⟩) (Or.inl rfl) v) (obArr_good ..) ?_ (fun k hk => Or.inl hk)
  have hh := heap_setCell_same w LB j _ _ v hb
  rw [arr_set g hj] at hh
  exact hh
theorem SepW.arrMade (h : SepW W w os) (z : Value) (e : TypeId) (M : Nat) : SepW W (w.alloc (.cells (madeCells #[z] M) e)) (obArr w.heap.size M e (fun _ => z) :: os) :=
  h.new ((Below.refl _ _).alloc (Nat.le_refl _) _) (obArr_good ..) (by show (w.alloc (.cells (madeCells #[z] M) e)).heap[w.heap.size]? = _; rw [arr_made]; exact heap_alloc_new w _) (fun k hk => by rw [show k = w.heap.size from hk]; exact Nat.le_refl _)
/-- What an array's function comes to. -/
theorem obArr_congr {g' : Nat → Value} (h : ∀ i, i < M → g i = g' i) : obArr LB M e g = obArr LB M e g' := by
  unfold obArr
  have : (List.range M).map g = (List.range M).map g' := List.map_congr_left fun i hi => h i (List.mem_range.1 hi)
  rw [this]
end
/-- A slice typed out of one byte. -/
theorem slr_one (w : World) (x : Int) (fr : Nat × Nat) : SlR (w.alloc (.cells #[.int .u8 x] 5 fr)) (.slice (some ⟨w.heap.size, 0, none⟩) 1 1) (u8s [x]) := lit_u8 w [x] _ _ (by simp)
/-- 'delete(m, k)' on a map told by a function. -/
theorem wpList_deleteR {P : Program} {w : World} {ops : Array Oper} {rest : List Oper} {o : Oper} {a : Act} {Q : Exit → Act → World → Prop} (hg : o.guard = none) (m x : Operand) (t k : TypeId) (hop : o.op = Op.call { callee := Callee.builtin Builtin.delete, args := #[m, x], argTypes := #[t, k] })
    (e : TypeId) (K : Keyed P k) (ht : P.underlying t = some (.map k e)) (b n : Nat) {f : Lit → Option Value}
    (hm : a.eval m = .map (some b)) (h : MapR w P k b n f) (key : Value) (kl : Lit) (hx : a.eval x = key) (hkey : keyOf P k key = some kl)
    (hK : ∀ w', MapR w' P k b n (delF f kl) → w.grownBy w' (some b) → wpList P ops Q rest (a.put o.dst (.tuple #[])) w') :
    wpList P ops Q (o :: rest) a w := by
  refine wpList_plain hg fun K' hK' => ?_
  obtain ⟨w', hrun, r1, r2⟩ := h.drop K ht hkey o.type
  unfold Oper.wp
  simp [execOp, hop, resolve, invoke, builtin, hm, hx, hrun, Result.andThen]
  exact hK' _ _ (hK w' r1 r2)
/-- A row of a map's literal, on a map told by a function. -/
theorem wpList_insertR {P : Program} {w : World} {ops : Array Oper} {rest : List Oper} {o : Oper} {a : Act} {Q : Exit → Act → World → Prop} (hg : o.guard = none) (m x v : Operand) (t k e : TypeId) (hop : o.op = Op.insert t m x v)
    (K : Keyed P k) (ht : P.underlying t = some (.map k e)) (b n : Nat) {f : Lit → Option Value} (hn : n < maxLen)
    (hm : a.eval m = .map (some b)) (h : MapR w P k b n f) (key val : Value) (kl : Lit) (hx : a.eval x = key) (hv : a.eval v = val) (hkey : keyOf P k key = some kl) (hkl : WideAt.IsKeyLit kl)
    (hK : ∀ w', MapR w' P k b (n + 1) (putF f kl val) → w.grownBy w' (some b) → wpList P ops Q rest (a.put o.dst undef) w') :
    wpList P ops Q (o :: rest) a w := by
  refine wpList_plain hg fun K' hK' => ?_
  obtain ⟨w', hrun, r1, r2⟩ := h.store K ht hn hkey hkl (val := val)
  unfold Oper.wp
  simp [execOp, hop, hm, hx, hv, hrun, Result.andThen]
  exact hK' _ _ (hK w' r1 r2)
end Go.Proofs.YtgmdedkingampaaGreat

namespace Go.Proofs.YtgmdedkingampaaGreat
open Go.ChangeShapes Go.WideShapes Go.ChangeAt Go.RowKit Go.Maps
set_option maxRecDepth 100000
set_option linter.unusedVariables false
set_option linter.unusedSimpArgs false

set_option maxHeartbeats 400000 in
theorem cloneB_any {v : Value} {xs : List Int} {w : World} (h : SlR w v (u8s xs)) (hl : xs.length ≤ 1000000000) :
    Calls Tryz.prog 68 #[v] w fun e w' => ∃ v', e = .returned v' ∧ w'.ownsRow w.heap.size 5 1 v' xs.length (u8s xs) ∧ Below w.heap.size w w' := by
  obtain ⟨ao, c, rfl, hc, hm, hx⟩ := h
  simp only [List.length_map] at *
  unfold maxLen at hm
  cases ao with
  | none =>
    have : xs = [] := by
      cases xs with
      | nil => rfl
      | cons x r => obtain ⟨a, ha, _⟩ := hx 0 (.int .u8 x) (by simp); cases ha
    subst this
    have hnil := fun (w : World) (n c : Nat) => Lib.run_eql_slice_nil (P := Tryz.prog) w 27 5 none n c 0 0 Tryz.underlying27
    go_enter Tryz.func68, Tryz.ntmps68
    go_wp2
    go_ret
    exact ⟨_, rfl, World.ownsRow_nil _ _ _ _, Below.refl _ _⟩
  | some a =>
    have hnil := fun (w : World) (n c : Nat) => Lib.run_eql_slice_nil (P := Tryz.prog) w 27 5 (some a) n c 0 0 Tryz.underlying27
    obtain ⟨i0, hi, hz0, hz1, hz2⟩ := info_parts Tryz.byteInfo
    have hcell : ∀ j u, (u8s xs)[j]? = some u → (w.alloc (.cells #[] 5)).cell? (a.add j) = some u := by
      intro j u hj
      obtain ⟨a', ha, hc⟩ := hx j u hj
      cases ha
      exact cell_alloc _ hc
    go_enter Tryz.func68, Tryz.ntmps68
    go_wp2_with (at_builtin; refine wpList_append_own _ rfl (.tmp 5) (.tmp 6) 27 rfl w.heap.size 5 i0 (.int .u8 0) 1 1 Tryz.underlying27 hi hz0 hz1 hz2 rfl (by decide) _ 0 [] rfl (World.ownsRow_made w #[] 0 (Nat.le_refl _) (by decide) rfl) a xs.length c (u8s xs) rfl (by simp) hcell (by intro u hu; simp at hu; obtain ⟨n, _, rfl⟩ := hu; rfl) (by unfold maxLen; omega) (by omega) (by simp) ?_)
    intro v' w' hown hg _
    have hb : Below w.heap.size w w' := ((Below.refl _ _).alloc (Nat.le_refl _) _).grown hg (by simp) (by intro k hk; simp [Value.ownBlock] at hk; omega)
    go_wp2
    go_ret
    exact ⟨v', rfl, by simpa using hown, hb⟩
end Go.Proofs.YtgmdedkingampaaGreat
