/-
  Things that lie apart from one another in the call's own memory. No program in sight.
-/
import Derived.Test.YtabanackdjlcmaaLib7
namespace Go.Proofs.Ytabanackdjlcmaa
open Go.ChangeShapes Go.WideShapes Go.ChangeAt Go.RowKit Go.Maps

/-- A thing: its blocks, and what it is in a world. -/
structure Ob where
  foot : Nat → Prop
  inv : World → Prop
structure Ob.Good (o : Ob) : Prop where
  keep : ∀ {S : Nat → Prop} {w w' : World}, o.inv w → Keep S w w' → (∀ k, S k → ¬ o.foot k) → o.inv w'
  lt : ∀ {w : World}, o.inv w → ∀ k, o.foot k → k < w.heap.size
/-- They lie apart, all behind a mark. -/
structure Sep (B : Nat) (w : World) (os : List Ob) : Prop where
  good : ∀ o ∈ os, o.Good
  inv : ∀ o ∈ os, o.inv w
  base : ∀ o ∈ os, ∀ k, o.foot k → B ≤ k
  apart : os.Pairwise (fun a b => ∀ k, a.foot k → ¬ b.foot k)
  size : B ≤ w.heap.size
section
variable {B : Nat} {w w' : World} {os : List Ob}
theorem Sep.nil (h : B ≤ w.heap.size) : Sep B w [] := ⟨by simp, by simp, by simp, List.Pairwise.nil, h⟩
theorem Sep.get (h : Sep B w os) (i : Nat) {o : Ob} (hi : os[i]? = some o) : o.inv w := h.inv o (List.mem_of_getElem? hi)
theorem Sep.lt (h : Sep B w os) (i : Nat) {o : Ob} (hi : os[i]? = some o) : ∀ k, o.foot k → B ≤ k ∧ k < w.heap.size := fun k hk =>
  ⟨h.base o (List.mem_of_getElem? hi) k hk, (h.good o (List.mem_of_getElem? hi)).lt (h.inv o (List.mem_of_getElem? hi)) k hk⟩
theorem Sep.two (h : Sep B w os) {i j : Nat} {a b : Ob} (hij : i ≠ j) (hi : os[i]? = some a) (hj : os[j]? = some b) : ∀ k, a.foot k → ¬ b.foot k := by
  have hp := List.pairwise_iff_getElem.1 h.apart
  obtain ⟨hi1, rfl⟩ := List.getElem?_eq_some_iff.1 hi
  obtain ⟨hj1, rfl⟩ := List.getElem?_eq_some_iff.1 hj
  intro k h1 h2
  rcases Nat.lt_or_gt_of_ne hij with hlt | hlt
  · exact hp i j hi1 hj1 hlt k h1 h2
  · exact hp j i hj1 hi1 hlt k h2 h1
theorem Sep.step (h : Sep B w os) (hb : Below w.heap.size w w') : Sep B w' os :=
  ⟨h.good, fun o ho => (h.good o ho).keep (h.inv o ho) (Below.keep0 (fun _ => False) hb) (fun k hk => hk.elim), h.base, h.apart, Nat.le_trans h.size hb.size⟩
theorem Sep.sub {l : List Ob} (h : Sep B w os) (hl : l.Sublist os) : Sep B w l :=
  ⟨fun o ho => h.good o (hl.subset ho), fun o ho => h.inv o (hl.subset ho), fun o ho => h.base o (hl.subset ho), h.apart.sublist hl, h.size⟩
/-- The order plays no part. -/
theorem Sep.perm {l : List Ob} (h : Sep B w os) (hl : os.Perm l) : Sep B w l :=
  ⟨fun o ho => h.good o (hl.mem_iff.2 ho), fun o ho => h.inv o (hl.mem_iff.2 ho), fun o ho => h.base o (hl.mem_iff.2 ho), (hl.pairwise_iff (fun hab k hb ha => hab k ha hb)).1 h.apart, h.size⟩
/-- A new thing. -/
theorem Sep.new (h : Sep B w os) {o : Ob} (hb : Below w.heap.size w w') (g : o.Good) (hi : o.inv w') (hf : ∀ k, o.foot k → w.heap.size ≤ k) : Sep B w' (o :: os) := by
  have h' := h.step hb
  refine ⟨fun x hx => ?_, fun x hx => ?_, fun x hx k hk => ?_, List.Pairwise.cons (fun x hx k hk hk2 => ?_) h'.apart, h'.size⟩
  · rcases List.mem_cons.1 hx with rfl | hx
    · exact g
    · exact h.good x hx
  · rcases List.mem_cons.1 hx with rfl | hx
    · exact hi
    · exact h'.inv x hx
  · rcases List.mem_cons.1 hx with rfl | hx
    · have := hf k hk; have := h.size; omega
    · exact h.base x hx k hk
  · have := hf k hk; have := (h.good x hx).lt (h.inv x hx) k hk2; omega
/-- The first thing turns. -/
theorem Sep.head {o o' : Ob} (h : Sep B w (o :: os)) (hk : Keep o.foot w w') (g : o'.Good) (hi : o'.inv w') (hf : ∀ k, o'.foot k → o.foot k ∨ w.heap.size ≤ k) : Sep B w' (o' :: os) := by
  have hap := List.pairwise_cons.1 h.apart
  refine ⟨fun x hx => ?_, fun x hx => ?_, fun x hx k hk => ?_, List.Pairwise.cons (fun x hx k hk1 hk2 => ?_) hap.2, Nat.le_trans h.size hk.size⟩
  · rcases List.mem_cons.1 hx with rfl | hx
    · exact g
    · exact h.good x (List.mem_cons_of_mem _ hx)
  · rcases List.mem_cons.1 hx with rfl | hx
    · exact hi
    · exact (h.good x (List.mem_cons_of_mem _ hx)).keep (h.inv x (List.mem_cons_of_mem _ hx)) hk (fun k hk => hap.1 x hx k hk)
  · rcases List.mem_cons.1 hx with rfl | hx
    · rcases hf k hk with e | e
      · exact h.base o (List.mem_cons_self ..) k e
      · have := h.size; omega
    · exact h.base x (List.mem_cons_of_mem _ hx) k hk
  · rcases hf k hk1 with e | e
    · exact hap.1 x hx k e hk2
    · have := (h.good x (List.mem_cons_of_mem _ hx)).lt (h.inv x (List.mem_cons_of_mem _ hx)) k hk2; omega
/-- The first two things become one. -/
theorem Sep.join {a b o' : Ob} (h : Sep B w (a :: b :: os)) (hk : Keep (fun k => a.foot k ∨ b.foot k) w w') (g : o'.Good) (hi : o'.inv w') (hf : ∀ k, o'.foot k → (a.foot k ∨ b.foot k) ∨ w.heap.size ≤ k) : Sep B w' (o' :: os) := by
  have hap := List.pairwise_cons.1 h.apart
  have hap2 := List.pairwise_cons.1 hap.2
  have hor : ∀ x ∈ os, ∀ k, (a.foot k ∨ b.foot k) → ¬ x.foot k := fun x hx k hk => by
    rcases hk with e | e
    · exact hap.1 x (List.mem_cons_of_mem _ hx) k e
    · exact hap2.1 x hx k e
  have hm : ∀ x ∈ os, x ∈ a :: b :: os := fun x hx => List.mem_cons_of_mem _ (List.mem_cons_of_mem _ hx)
  refine ⟨fun x hx => ?_, fun x hx => ?_, fun x hx k hk => ?_, List.Pairwise.cons (fun x hx k hk1 hk2 => ?_) hap2.2, Nat.le_trans h.size hk.size⟩
  · rcases List.mem_cons.1 hx with rfl | hx
    · exact g
    · exact h.good x (hm x hx)
  · rcases List.mem_cons.1 hx with rfl | hx
    · exact hi
    · exact (h.good x (hm x hx)).keep (h.inv x (hm x hx)) hk (fun k hk => hor x hx k hk)
  · rcases List.mem_cons.1 hx with rfl | hx
    · rcases hf k hk with (e | e) | e
      · exact h.base a (by simp) k e
      · exact h.base b (by simp) k e
      · have := h.size; omega
    · exact h.base x (hm x hx) k hk
  · rcases hf k hk1 with e | e
    · exact hor x hx k e hk2
    · have := (h.good x (hm x hx)).lt (h.inv x (hm x hx)) k hk2; omega
/-- What lies ahead of the mark is as it was, where the first thing turned. -/
theorem Sep.below {o : Ob} {W : World} (h : Sep W.heap.size w (o :: os)) (hb : Below W.heap.size W w) (hk : Keep o.foot w w') : Below W.heap.size W w' :=
  hb.trans (hk.below h.size (fun k hk => h.base o (by simp) k hk))
end

theorem front_perm {α : Type} {l : List α} {i : Nat} {a : α} (h : l[i]? = some a) : l.Perm (a :: l.eraseIdx i) := by
  induction l generalizing i with
  | nil => simp at h
  | cons x r ih =>
    cases i with
    | zero => simp at h; subst h; exact List.Perm.refl _
    | succ i => exact ((ih (by simpa using h)).cons x).trans (List.Perm.swap _ _ _)
theorem set_perm {α : Type} {l : List α} {i : Nat} {a : α} (b : α) (h : l[i]? = some a) : (b :: l.eraseIdx i).Perm (l.set i b) := by
  induction l generalizing i with
  | nil => simp at h
  | cons x r ih =>
    cases i with
    | zero => exact List.Perm.refl _
    | succ i => exact (List.Perm.swap _ _ _).trans ((ih (by simpa using h)).cons x)
/-- One thing comes to the front. -/
theorem Sep.front {B : Nat} {w : World} {os : List Ob} (h : Sep B w os) (i : Nat) {o : Ob} (hi : os[i]? = some o) : Sep B w (o :: os.eraseIdx i) := h.perm (front_perm hi)
/-- One thing turns, where it stands. -/
theorem Sep.set {B : Nat} {w w' : World} {os : List Ob} (h : Sep B w os) (i : Nat) {o o' : Ob} (hi : os[i]? = some o) (hk : Keep o.foot w w') (g : o'.Good) (hi' : o'.inv w') (hf : ∀ k, o'.foot k → o.foot k ∨ w.heap.size ≤ k) : Sep B w' (os.set i o') :=
  ((h.front i hi).head hk g hi' hf).perm (set_perm o' hi)
/-- What is below the mark stays where one thing turns. -/
theorem Sep.belowAt {W w w' : World} {os : List Ob} (h : Sep W.heap.size w os) (hb : Below W.heap.size W w) (i : Nat) {o : Ob} (hi : os[i]? = some o) (hk : Keep o.foot w w') : Below W.heap.size W w' :=
  hb.trans (hk.below h.size (fun k hf => h.base o (List.mem_of_getElem? hi) k hf))

/-- A slice of the call's own. -/
def obRow (v : Value) (e : TypeId) (size n : Nat) (xs : List Value) : Ob := ⟨fun k => v.ownBlock = some k, fun w => w.ownsRow 0 e size v n xs⟩
theorem obRow_good (v : Value) (e : TypeId) (size n : Nat) (xs : List Value) : (obRow v e size n xs).Good :=
  ⟨fun h hk hs => own_keepS hk h (fun k hv hS => hs k hS hv), fun h k hk => (h.lt k hk).2⟩
/-- A block that is known whole. -/
def obBlk (b : Nat) (o : Obj) : Ob := ⟨fun k => k = b, fun w => w.heap[b]? = some o⟩
theorem obBlk_good (b : Nat) (o : Obj) : (obBlk b o).Good :=
  ⟨fun {S w w'} h hk hs => (hk.block b (Array.getElem?_eq_some_iff.1 h).1 (fun e => hs b e rfl)).trans h, fun {w} h k hk => by cases hk; exact (Array.getElem?_eq_some_iff.1 h).1⟩
/-- A row of shards' rows, each with a slice of its own. -/
def obRws (v : Value) (e : TypeId) (vs : List Value) (rs : Rw) : Ob :=
  ⟨fun k => v.ownBlock = some k ∨ ∃ u ∈ vs, u.ownBlock = some k, fun w => w.ownsRow 0 e 2 v rs.length vs ∧ RowsC w vs rs ∧ (∀ u ∈ vs, ∀ k, u.ownBlock = some k → v.ownBlock ≠ some k ∧ k < w.heap.size)⟩
theorem obRws_good (v : Value) (e : TypeId) (vs : List Value) (rs : Rw) : (obRws v e vs rs).Good :=
  ⟨fun {S w w'} h hk hs => ⟨own_keepS hk h.1 (fun k hv hS => hs k hS (Or.inl hv)), h.2.1.keep hk (fun u hu k hv hS => hs k hS (Or.inr ⟨u, hu, hv⟩)), fun u hu k hv => ⟨(h.2.2 u hu k hv).1, Nat.lt_of_lt_of_le (h.2.2 u hu k hv).2 hk.size⟩⟩,
   fun {w} h k hk => by
    rcases hk with e | ⟨u, hu, e⟩
    · exact (h.1.lt k e).2
    · exact (h.2.2 u hu k e).2⟩
/-- Behind an append of one element to a slice of one's own: worlds but for its block. -/
theorem keep_app {base : Nat} {w w' : World} {v : Value} (hb : Below base w w') (hk : ∀ k, k < w.heap.size → some k ≠ v.ownBlock → w'.heap[k]? = w.heap[k]?) : Keep (fun k => v.ownBlock = some k) w w' :=
  ⟨hb.os, hb.tape, hb.output, hb.size, fun k hk' hn => hk k hk' (fun e => hn e.symm)⟩
/-- A row of one's own with its own slice joins the rows. -/
theorem Sep.rowApp {B : Nat} {w w' : World} {os : List Ob} {v lv : Value} {e eu : TypeId} {vs : List Value} {rs : Rw} {n g cap : Nat} {xs : List Int} {id : Int} {o : Obj} (h : Sep B w (obRws v e vs rs :: obRow lv eu 1 n (u64s xs) :: os)) (hg : (w.alloc o).grownBy w' v.ownBlock) (hor : v.ownBlock = some g ∨ g = w.heap.size + 1)
    (hown : w'.ownsRow 0 e 2 (.slice (some ⟨g, 0, none⟩) (rs.length + 1) cap) (rs.length + 1) (vs ++ [.int .i64 id, lv])) :
    Sep B w' (obRws (.slice (some ⟨g, 0, none⟩) (rs.length + 1) cap) e (vs ++ [.int .i64 id, lv]) (rs ++ [(id, xs)]) :: os) ∧ Keep (fun k => v.ownBlock = some k) w w' := by
  have hk : Keep (fun k => v.ownBlock = some k) w w' := (Below.keep0 _ ((Below.refl _ _).alloc (Nat.le_refl _) o)).trans (Keep.grown hg (fun k hk => hk))
  have h0 := h.get 0 rfl
  have h1 : w.ownsRow 0 eu 1 lv n (u64s xs) := h.get 1 rfl
  have hd := h.two (i := 0) (j := 1) (by omega) rfl rfl
  have hlv : Off (fun k => v.ownBlock = some k) lv := fun k hk hv => hd k (Or.inl hv) hk
  have h1' := own_keepS hk h1 hlv
  have hgne : ∀ k, k < w.heap.size → v.ownBlock ≠ some k → (Value.slice (some ⟨g, 0, none⟩) (rs.length + 1) cap).ownBlock ≠ some k := fun k hk' hne hh => by
    cases hh
    rcases hor with hh | hh
    · exact hne hh
    · have : g < w.heap.size := hk'
      omega
  refine ⟨h.join (hk.mono (fun k _ hv => Or.inl (Or.inl hv))) (obRws_good ..) ⟨by rw [List.length_append]; exact hown, (h0.2.1.keep hk (fun u hu k hk' hv => (h0.2.2 u hu k hk').1 hv)).snoc (SlR.of_own h1'), fun u hu k hk' => ?_⟩ (fun k hf => ?_), hk⟩
  · rcases List.mem_append.1 hu with hu | hu
    · exact ⟨hgne k (h0.2.2 u hu k hk').2 (h0.2.2 u hu k hk').1, Nat.lt_of_lt_of_le (h0.2.2 u hu k hk').2 hk.size⟩
    · simp at hu
      rcases hu with rfl | rfl
      · cases hk'
      · exact ⟨hgne k (h1.lt k hk').2 (fun hv => hd k (Or.inl hv) hk'), (h1'.lt k hk').2⟩
  · rcases hf with hf | ⟨u, hu, hf⟩
    · cases hf
      rcases hor with hh | hh
      · exact Or.inl (Or.inl (Or.inl hh))
      · exact Or.inr (by show w.heap.size ≤ g; omega)
    · rcases List.mem_append.1 hu with hu | hu
      · exact Or.inl (Or.inl (Or.inr ⟨u, hu, hf⟩))
      · simp at hu
        rcases hu with rfl | rfl
        · cases hf
        · exact Or.inl (Or.inr hf)
theorem own_shrink {w : World} {base : Nat} {e : TypeId} {g m c : Nat} {xs : List Value} (h : w.ownsRow base e 1 (.slice (some ⟨g, 0, none⟩) (m + 1) c) (m + 1) xs) : w.ownsRow base e 1 (.slice (some ⟨g, 0, none⟩) m c) m (xs.take m) := by
  obtain ⟨h1, h2⟩ := h
  rcases h2 with ⟨hn, _⟩ | ⟨g', cap, cur, hv, hb, hg, hnc, hcm, hcs, htake⟩
  · cases hn
  · cases hv
    refine ⟨by simp; omega, Or.inr ⟨g, c, cur, rfl, hb, hg, by omega, hcm, hcs, ?_⟩⟩
    rw [← htake, List.take_take]
    congr 1; omega
end Go.Proofs.Ytabanackdjlcmaa
