/-
  Contracts of package fold: Shards.
-/
import Derived.Test.YtabanackdjlcmaaFoldV
import Derived.Test.YtabanackdjlcmaaSep
import Derived.Test.YtabanackdjlcmaaIterS
namespace Go.Proofs.Ytabanackdjlcmaa
open Go.ChangeShapes Go.WideShapes Go.ChangeAt Go.RowKit Go.Maps Go.Sort Go.Shelf
set_option maxRecDepth 100000

theorem Try.shardInfo2 : (Try.prog.info? 35).map (fun i => (i.zero, i.size, i.bytes)) = some (some (.agg #[.int .i64 0, .int .i64 0, .slice none 0 0, .bool false]), 4, 48) := by kernel_rfl
/-- A row of shards, each with a slice of its own. -/
def obShs (v : Value) (e : TypeId) (vs : List Value) (hs : List Sh) : Ob :=
  ⟨fun k => v.ownBlock = some k ∨ ∃ u ∈ vs, u.ownBlock = some k, fun w => w.ownsRow 0 e 4 v hs.length vs ∧ ShC w vs hs ∧ (∀ u ∈ vs, ∀ k, u.ownBlock = some k → v.ownBlock ≠ some k ∧ k < w.heap.size)⟩
theorem obShs_good (v : Value) (e : TypeId) (vs : List Value) (hs : List Sh) : (obShs v e vs hs).Good :=
  ⟨fun {S w w'} h hk hs => ⟨own_keepS hk h.1 (fun k hv hS => hs k hS (Or.inl hv)), h.2.1.keep hk (fun u hu k hv hS => hs k hS (Or.inr ⟨u, hu, hv⟩)), fun u hu k hv => ⟨(h.2.2 u hu k hv).1, Nat.lt_of_lt_of_le (h.2.2 u hu k hv).2 hk.size⟩⟩,
   fun {w} h k hk => by
    rcases hk with e | ⟨u, hu, e⟩
    · exact (h.1.lt k e).2
    · exact (h.2.2 u hu k e).2⟩
/-- A shard with its own slice joins the row. -/
theorem Sep.shApp {B : Nat} {w w' : World} {os : List Ob} {v lv : Value} {e eu : TypeId} {vs : List Value} {hs : List Sh} {n g cap : Nat} {s : Sh} {o : Obj} (h : Sep B w (obShs v e vs hs :: obRow lv eu 1 n (u64s s.lens) :: os)) (hg : (w.alloc o).grownBy w' v.ownBlock) (hor : v.ownBlock = some g ∨ g = w.heap.size + 1)
    (hown : w'.ownsRow 0 e 4 (.slice (some ⟨g, 0, none⟩) (hs.length + 1) cap) (hs.length + 1) (vs ++ [.int .i64 s.id, .int .i64 s.segs, lv, .bool s.fin])) :
    Sep B w' (obShs (.slice (some ⟨g, 0, none⟩) (hs.length + 1) cap) e (vs ++ [.int .i64 s.id, .int .i64 s.segs, lv, .bool s.fin]) (hs ++ [s]) :: os) ∧ Keep (fun k => v.ownBlock = some k) w w' := by
  have hk : Keep (fun k => v.ownBlock = some k) w w' := (Below.keep0 _ ((Below.refl _ _).alloc (Nat.le_refl _) o)).trans (Keep.grown hg (fun k hk => hk))
  have h0 := h.get 0 rfl
  have h1 : w.ownsRow 0 eu 1 lv n (u64s s.lens) := h.get 1 rfl
  have hd := h.two (i := 0) (j := 1) (by omega) rfl rfl
  have hlv : Off (fun k => v.ownBlock = some k) lv := fun k hk hv => hd k (Or.inl hv) hk
  have h1' := own_keepS hk h1 hlv
  have hgne : ∀ k, k < w.heap.size → v.ownBlock ≠ some k → (Value.slice (some ⟨g, 0, none⟩) (hs.length + 1) cap).ownBlock ≠ some k := fun k hk' hne hh => by
    cases hh
    rcases hor with hh | hh
    · exact hne hh
    · have : g < w.heap.size := hk'
      omega
  refine ⟨h.join (hk.mono (fun k _ hv => Or.inl (Or.inl hv))) (obShs_good ..) ⟨by rw [List.length_append]; exact hown, (h0.2.1.keep hk (fun u hu k hk' hv => (h0.2.2 u hu k hk').1 hv)).snoc (SlR.of_own h1'), fun u hu k hk' => ?_⟩ (fun k hf => ?_), hk⟩
  · rcases List.mem_append.1 hu with hu | hu
    · exact ⟨hgne k (h0.2.2 u hu k hk').2 (h0.2.2 u hu k hk').1, Nat.lt_of_lt_of_le (h0.2.2 u hu k hk').2 hk.size⟩
    · simp at hu
      rcases hu with rfl | rfl | rfl | rfl
      · cases hk'
      · cases hk'
      · exact ⟨hgne k (h1.lt k hk').2 (fun hv => hd k (Or.inl hv) hk'), (h1'.lt k hk').2⟩
      · cases hk'
  · rcases hf with hf | ⟨u, hu, hf⟩
    · cases hf
      rcases hor with hh | hh
      · exact Or.inl (Or.inl (Or.inl hh))
      · exact Or.inr (by show w.heap.size ≤ g; omega)
    · rcases List.mem_append.1 hu with hu | hu
      · exact Or.inl (Or.inl (Or.inr ⟨u, hu, hf⟩))
      · simp at hu
        rcases hu with rfl | rfl | rfl | rfl
        · cases hf
        · cases hf
        · exact Or.inl (Or.inr hf)
        · cases hf

/-- The numbers of the shards that there are, rising; the shards. -/
def shIds (F : FS) : List Int := ((List.range 8).map fun (i : Nat) => (i : Int)).filter fun a => (F.sh a).isSome
def shL (F : FS) : List Sh := (shIds F).filterMap F.sh
theorem shIds_mem (F : FS) (a : Int) : a ∈ shIds F ↔ IdOk a ∧ (F.sh a).isSome = true := by
  unfold shIds IdOk
  rw [List.mem_filter, List.mem_map]
  constructor
  · rintro ⟨⟨i, hi, rfl⟩, h⟩
    have := List.mem_range.1 hi
    exact ⟨⟨by omega, by omega⟩, h⟩
  · rintro ⟨⟨h1, h2⟩, h⟩
    exact ⟨⟨a.toNat, List.mem_range.2 (by omega), by omega⟩, h⟩
theorem shIds_lt (F : FS) : (shIds F).Pairwise (· < ·) := by
  unfold shIds
  refine List.Pairwise.filter _ ?_
  have : List.range 8 = [0, 1, 2, 3, 4, 5, 6, 7] := by decide
  rw [this]
  simp
theorem shIds_len (F : FS) : (shIds F).length ≤ 8 := by
  unfold shIds
  have := List.length_filter_le (fun a => (F.sh a).isSome) ((List.range 8).map fun (i : Nat) => (i : Int))
  simpa using this
theorem shIds_sorted (F : FS) : (shIds F).mergeSort (fun x y => decide (x ≤ y)) = shIds F := by
  refine List.mergeSort_of_pairwise ?_
  exact (shIds_lt F).imp (fun h => by simpa using Int.le_of_lt h)
theorem shL_len (F : FS) : (shL F).length = (shIds F).length := by
  unfold shL
  have : ∀ l : List Int, (∀ a ∈ l, (F.sh a).isSome = true) → (l.filterMap F.sh).length = l.length := by
    intro l
    induction l with
    | nil => intro _; rfl
    | cons a r ih =>
      intro h
      obtain ⟨s, hs⟩ := Option.isSome_iff_exists.1 (h a (by simp))
      rw [List.filterMap_cons, hs]
      simp [ih (fun x hx => h x (by simp [hx]))]
  exact this _ (fun a ha => ((shIds_mem F a).1 ha).2)
theorem shL_at (F : FS) (k : Nat) (a : Int) (h : (shIds F)[k]? = some a) : ∃ s, F.sh a = some s ∧ (shL F)[k]? = some s := by
  have hs := ((shIds_mem F a).1 (List.mem_of_getElem? h)).2
  obtain ⟨s, hs⟩ := Option.isSome_iff_exists.1 hs
  refine ⟨s, hs, ?_⟩
  unfold shL
  have : ∀ (l : List Int) (k : Nat), (∀ a ∈ l, (F.sh a).isSome = true) → l[k]? = some a → (l.filterMap F.sh)[k]? = some s := by
    intro l
    induction l with
    | nil => intro k _ h; simp at h
    | cons b r ih =>
      intro k hl hk
      obtain ⟨sb, hsb⟩ := Option.isSome_iff_exists.1 (hl b (by simp))
      rw [List.filterMap_cons, hsb]
      cases k with
      | zero => simp at hk; subst hk; rw [hs] at hsb; cases hsb; rfl
      | succ k => simpa using ih k (fun x hx => hl x (by simp [hx])) (by simpa using hk)
  exact this _ k (fun x hx => ((shIds_mem F x).1 hx).2) h
/-- A map's keys, sorted, are the shards' numbers. -/
theorem shIds_of {D : Nat → Prop} {w : World} {b0 bs bt N : Nat} {lv : Value} {F : FS} (h : FoldR w D b0 bs bt N lv F) : ∃ D0 : DataW Value, w.ownsMap Try.prog 3 heldR bs N D0 ∧ ∀ ss : List Int, ss.Perm (intKeys D0) → ss.mergeSort (fun x y => decide (x ≤ y)) = shIds F ∧ ss.length = (shIds F).length := by
  obtain ⟨f, ⟨D0, hown, hm, hf⟩, hv, hvx⟩ := h.sh
  refine ⟨D0, hown, fun ss hss => ?_⟩
  obtain ⟨es, hD, hpw, _⟩ := hown.entries idKeyed
  obtain ⟨es', hD', hko⟩ := hown.keysOf
  obtain rfl : es = es' := by rw [hD] at hD'; simpa using hD'
  have hp : (shIds F).Perm (intKeys D0) := by
    rw [hD]
    refine perm_intKeys hpw (fun p hp => by obtain ⟨v, hv⟩ := hko p hp; obtain ⟨x, _, hx, _⟩ := Maps.keyOf_i64 Try.underlying3 hv; exact ⟨x, hx⟩) ?_ (fun x => ?_)
    · exact (shIds_lt F).imp (fun h => by omega)
    · rw [← hD, (hf _).1, shIds_mem]
      constructor
      · rintro ⟨hx, hs⟩
        have := hv x hx
        obtain ⟨s, hs⟩ := Option.isSome_iff_exists.1 hs
        rw [hs] at this
        obtain ⟨sv, h1, _⟩ := this
        rw [h1]; rfl
      · intro hx
        obtain ⟨a, ha, e⟩ := hvx _ hx
        cases e
        refine ⟨ha, ?_⟩
        have := hv x ha
        cases hs : F.sh x with
        | none => rw [hs] at this; have h0 : f (.int .i64 x) = none := this; rw [h0] at hx; cases hx
        | some s => rfl
  have hpp := hss.trans hp.symm
  refine ⟨?_, hpp.length_eq⟩
  have := mergeSort_of_perm_i hpp
  unfold leI at this
  rw [this, shIds_sorted]
end Go.Proofs.Ytabanackdjlcmaa
