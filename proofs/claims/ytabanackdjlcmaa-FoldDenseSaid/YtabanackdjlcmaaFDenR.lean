/-
  FoldDense: a dense state tells of each position its record, and of the record its position.
-/
import Derived.Test.YtabanackdjlcmaaFErrT
import Derived.Test.YtabanackdjlcmaaShards
import Derived.Test.YtabanackdjlcmaaPlace
import Derived.Test.YtabanackdjlcmaaFGroQ
namespace Go.Proofs.Ytabanackdjlcmaa
open Go.ChangeShapes Go.WideShapes Go.ChangeAt Go.RowKit Go.Maps
set_option maxRecDepth 100000

/-- Is a span of a segment? -/
def ofSeg (a g : Int) (s : Sp) : Prop := s.shard = a ∧ s.seg = g
instance (a g : Int) (s : Sp) : Decidable (ofSeg a g s) := inferInstanceAs (Decidable (_ ∧ _))
/-- How many records of a segment spans hold. -/
def segN (a g : Int) (L : List Sp) : Int := (L.map fun s => if ofSeg a g s then s.many else 0).sum
theorem segN_nil (a g : Int) : segN a g [] = 0 := rfl
theorem segN_cons (a g : Int) (s : Sp) (L : List Sp) : segN a g (s :: L) = (if ofSeg a g s then s.many else 0) + segN a g L := by simp [segN]
theorem segN_app (a g : Int) (L M : List Sp) : segN a g (L ++ M) = segN a g L + segN a g M := by simp [segN]
theorem segN_none {a g : Int} {L : List Sp} (h : ∀ s ∈ L, ¬ ofSeg a g s) : segN a g L = 0 := by
  induction L with
  | nil => rfl
  | cons s r ih => rw [segN_cons, if_neg (h s (by simp)), ih (fun x hx => h x (by simp [hx]))]; rfl
theorem segN_pos {a g : Int} {L : List Sp} (h : ∀ s ∈ L, 0 < s.many) : 0 ≤ segN a g L := by
  induction L with
  | nil => simp [segN]
  | cons s r ih =>
    have h1 := ih (fun x hx => h x (by simp [hx]))
    have h2 := h s (by simp)
    rw [segN_cons]; split <;> omega
theorem segN_le {a g : Int} {L : List Sp} (h : ∀ s ∈ L, 0 < s.many) : segN a g L ≤ sumI (manyOf L) := by
  induction L with
  | nil => simp [segN, manyOf, sumI]
  | cons s r ih =>
    have h1 := ih (fun x hx => h x (by simp [hx]))
    have h2 := h s (by simp)
    rw [segN_cons, manyOf_cons, sumI_cons]; split <;> omega
/-- How spans of a segment stand: end on end, from nought on. -/
def Offs (L : List Sp) : Prop := ∀ A s B, L = A ++ s :: B → s.off = segN s.shard s.seg A
theorem newSp_seg (lens : List Int) (a : Int) (xs : List Int) (k : Nat) : ∀ s ∈ newSp lens a xs k, s.shard = a ∧ ∃ i : Nat, i < k ∧ s.seg = i ∧ s.off = atI lens i ∧ s.many = atI xs i - atI lens i := by
  intro s hs
  unfold newSp at hs
  obtain ⟨i, hi, hs⟩ := List.mem_flatMap.1 hs
  split at hs
  · simp at hs; subst hs; exact ⟨rfl, i, List.mem_range.1 hi, rfl, rfl, rfl⟩
  · cases hs
theorem newSp_apart (lens : List Int) (a : Int) (xs : List Int) (k : Nat) : (newSp lens a xs k).Pairwise (fun s t => ¬ ofSeg s.shard s.seg t) := by
  induction k with
  | zero => simp [newSp]
  | succ k ih =>
    rw [newSp_succ, List.pairwise_append]
    refine ⟨ih, ?_, fun s hs t ht => ?_⟩
    · split <;> simp
    · split at ht
      · simp at ht
        subst ht
        obtain ⟨_, i, hi, e, _⟩ := newSp_seg lens a xs k s hs
        rintro ⟨_, h2⟩
        simp only at h2
        omega
      · cases ht
theorem segN_new (lens : List Int) (a : Int) (xs : List Int) (k g : Nat) (hle : leB lens xs = true) : segN a g (newSp lens a xs k) = if g < k then atI xs g - atI lens g else 0 := by
  have hl := le_iff.1 hle
  induction k with
  | zero => simp [newSp, segN]
  | succ k ih =>
    rw [newSp_succ, segN_app, ih]
    have hk := hl k
    by_cases e : g = k
    · subst e
      rw [if_neg (show ¬ g < g by omega), if_pos (show g < g + 1 by omega)]
      by_cases hx : atI lens g < atI xs g
      · rw [if_pos hx, segN_cons, if_pos ⟨rfl, rfl⟩, segN_nil]; simp
      · rw [if_neg hx, segN_nil]; omega
    · have h0 : segN a g (if atI lens k < atI xs k then [(⟨0, a, k, atI lens k, atI xs k - atI lens k⟩ : Sp)] else []) = 0 := by
        refine segN_none (fun s hs => ?_)
        split at hs
        · simp at hs; subst hs; rintro ⟨_, h2⟩; simp only at h2; omega
        · cases hs
      rw [h0]
      by_cases h1 : g < k
      · rw [if_pos h1, if_pos (by omega)]; omega
      · rw [if_neg h1, if_neg (by omega)]; omega
/-- Rows of shards that rise. -/
def Rise (rs : Rw) : Prop := rs.Pairwise (fun r q => r.1 < q.1)
theorem rise_of {rs : Rw} (h : rowsB rs = true) : Rise rs := by
  unfold rowsB at h
  rw [List.all_eq_true] at h
  have h1 : ∀ i (hi : i + 1 < rs.length), (rs[i]'(by omega)).1 < rs[i + 1].1 := by
    intro i hi
    have := h (i + 1) (List.mem_range.2 hi)
    unfold rowOkAt at this
    have e1 : rs[i + 1]? = some rs[i + 1] := List.getElem?_eq_getElem hi
    have e0 : rs[i]? = some (rs[i]'(by omega)) := List.getElem?_eq_getElem (by omega)
    simp [e1, e0] at this
    omega
  have h2 : ∀ d i (hi : i + d + 1 < rs.length), (rs[i]'(by omega)).1 < rs[i + d + 1].1 := by
    intro d
    induction d with
    | zero => intro i hi; exact h1 i hi
    | succ d ih =>
      intro i hi
      have a1 := ih i (by omega)
      have a2 := h1 (i + d + 1) (by omega)
      exact Int.lt_trans a1 a2
  unfold Rise
  rw [List.pairwise_iff_getElem]
  intro i j hi hj hij
  obtain ⟨d, rfl⟩ : ∃ d, j = i + d + 1 := ⟨j - i - 1, by omega⟩
  exact h2 d i hj
theorem rowsSp_cons (F : FS) (r : Int × List Int) (rs : Rw) : rowsSp F (r :: rs) = rowSp F r ++ rowsSp F rs := by simp [rowsSp]
theorem rowsSp_shard (F : FS) (rs : Rw) : ∀ s ∈ rowsSp F rs, ∃ r ∈ rs, s.shard = r.1 ∧ ∃ i : Nat, i < r.2.length ∧ s.seg = i ∧ s.off = atI (lensOf F r.1) i := by
  intro s hs
  unfold rowsSp at hs
  obtain ⟨r, hr, hs⟩ := List.mem_flatMap.1 hs
  obtain ⟨h1, i, h2, h3, h4, _⟩ := newSp_seg _ _ _ _ s hs
  exact ⟨r, hr, h1, i, h2, h3, h4⟩
theorem rowsSp_apart (F : FS) {rs : Rw} (h : Rise rs) : (rowsSp F rs).Pairwise (fun s t => ¬ ofSeg s.shard s.seg t) := by
  induction rs with
  | nil => simp [rowsSp]
  | cons r rs ih =>
    have h' := List.pairwise_cons.1 h
    rw [rowsSp_cons, List.pairwise_append]
    refine ⟨newSp_apart _ _ _ _, ih h'.2, fun s hs t ht => ?_⟩
    obtain ⟨e1, _⟩ := newSp_seg _ _ _ _ s hs
    obtain ⟨q, hq, e2, _⟩ := rowsSp_shard F rs t ht
    have := h'.1 q hq
    rintro ⟨h3, _⟩
    omega
theorem segN_rows (F : FS) {rs : Rw} (h : Rise rs) (hr : ∀ r ∈ rs, rowE F r = 0) (a : Int) (g : Nat) :
    segN a g (rowsSp F rs) = match rs.find? (fun r => r.1 == a) with | none => 0 | some r => if g < r.2.length then atI r.2 g - atI (lensOf F a) g else 0 := by
  induction rs with
  | nil => simp [rowsSp, segN]
  | cons r rs ih =>
    have h' := List.pairwise_cons.1 h
    rw [rowsSp_cons, segN_app]
    by_cases e : r.1 = a
    · have h0 : segN a g (rowsSp F rs) = 0 := segN_none (fun s hs => by
        obtain ⟨q, hq, e2, _⟩ := rowsSp_shard F rs s hs
        have := h'.1 q hq
        rintro ⟨h3, _⟩
        omega)
      rw [h0, List.find?_cons_of_pos (by simpa using e)]
      have hle : leB (lensOf F r.1) r.2 = true := by
        have := hr r (by simp)
        unfold rowE at this
        unfold lensOf
        cases hs : F.sh r.1 with
        | none => rw [hs] at this; simp at this
        | some s =>
          rw [hs] at this
          simp only at this ⊢
          split at this
          · exact absurd this (by decide)
          · split at this
            · exact absurd this (by decide)
            · rename_i hx
              cases e : leB s.lens r.2
              · exact absurd (Or.inr e) hx
              · rfl
      have := segN_new (lensOf F r.1) r.1 r.2 r.2.length g hle
      unfold rowSp
      subst e
      rw [this, Int.add_zero]
    · have h0 : segN a g (rowSp F r) = 0 := segN_none (fun s hs => by
        obtain ⟨e1, _⟩ := newSp_seg _ _ _ _ s hs
        rintro ⟨h3, _⟩
        omega)
      rw [h0, List.find?_cons_of_neg (by simpa using e), ih h'.2 (fun q hq => hr q (by simp [hq])), Int.zero_add]
theorem offs_app {L M : List Sp} (h : Offs L) (hp : M.Pairwise (fun s t => ¬ ofSeg s.shard s.seg t)) (hm : ∀ s ∈ M, s.off = segN s.shard s.seg L) : Offs (L ++ M) := by
  intro A s B e
  rcases List.append_eq_append_iff.1 e with ⟨C, e1, e2⟩ | ⟨C, e1, e2⟩
  · subst e1
    rw [hm s (by rw [e2]; simp), segN_app, segN_none (L := C) (fun t ht => ?_), Int.add_zero]
    rw [e2, List.pairwise_append] at hp
    have := hp.2.2 t ht s (by simp)
    rintro ⟨h1, h2⟩
    exact this ⟨h1.symm, h2.symm⟩
  · cases C with
    | nil =>
      simp at e1 e2
      subst e1
      rw [hm s (by rw [← e2]; simp)]
    | cons c C =>
      simp at e2
      obtain ⟨rfl, e2⟩ := e2
      exact h A s C e1
/-- What a state that has known cuts alone is. -/
structure Den (F : FS) (L : List Sp) : Prop where
  base : Dense F L
  offs : Offs L
  lens : ∀ a t, F.sh a = some t → ∀ g : Nat, atI t.lens g = segN a g L
  home : ∀ s ∈ L, IdOk s.shard ∧ ∃ t g, F.sh s.shard = some t ∧ s.seg = ((g : Nat) : Int) ∧ g < t.segs
  low : F.low = 0
  segs : ∀ a t, F.sh a = some t → t.segs ≤ 4 ∧ t.lens.length ≤ 4 ∧ t.id = a ∧ U64 t.lens
theorem Den.empty : Den emptyFS [] := ⟨Dense.empty, (by intro A s B e; simp at e), (by intro a t h; cases h), (by simp), rfl, (by intro a t h; cases h)⟩
theorem rowE_some {F : FS} {r : Int × List Int} (h : rowE F r = 0) : ∃ s, F.sh r.1 = some s ∧ s.fin = false ∧ r.2.length ≤ s.segs ∧ leB s.lens r.2 = true := by
  unfold rowE at h
  cases hs : F.sh r.1 with
  | none => rw [hs] at h; simp at h
  | some s =>
    rw [hs] at h
    simp only at h
    split at h
    · exact absurd h (by decide)
    · rename_i hf
      split at h
      · exact absurd h (by decide)
      · rename_i hx
        refine ⟨s, rfl, by simpa using hf, by omega, ?_⟩
        cases e : leB s.lens r.2
        · exact absurd (Or.inr e) hx
        · rfl
theorem rowsE_zero {F : FS} {rs : Rw} (h : rowsE F rs = 0) : ∀ r ∈ rs, rowE F r = 0 := by
  induction rs with
  | nil => simp
  | cons x rs ih =>
    have h' : (if rowE F x = 0 then rowsE F rs else rowE F x) = 0 := h
    by_cases hx : rowE F x = 0
    · rw [if_pos hx] at h'
      intro r hr
      rcases List.mem_cons.1 hr with rfl | hr
      · exact hx
      · exact ih h' r hr
    · rw [if_neg hx] at h'; exact absurd h' hx
theorem Den.cut {F : FS} {L : List Sp} (h : Den F L) {rs : Rw} (he : cutE F rs = 0) (hb : rowsB rs = true) (hu : ∀ r ∈ rs, U64 r.2) : Den (cutF F rs) (L ++ rowsSp F rs) := by
  have hE : rowsE F rs = 0 := by
    unfold cutE at he
    split at he
    · assumption
    · exact he
  have hr := rowsE_zero hE
  have hri := rise_of hb
  have hsg := segN_rows F hri hr
  have hok := rowsSp_ok (F := F) (rs := rs) (fun a s hs => (h.segs a s hs).2.2.2) hu
  have hIdOk : ∀ r ∈ rs, IdOk r.1 := by
    intro r hr'
    obtain ⟨i, hi, rfl⟩ := List.getElem_of_mem hr'
    unfold rowsB at hb
    rw [List.all_eq_true] at hb
    have := hb i (List.mem_range.2 hi)
    unfold rowOkAt at this
    have e1 : rs[i]? = some rs[i] := List.getElem?_eq_getElem hi
    simp [e1] at this
    exact ⟨by omega, by omega⟩
  refine ⟨h.base.cut hok, offs_app h.offs (rowsSp_apart F hri) (fun s hs => ?_), fun a t ht g => ?_, fun s hs => ?_, h.low, fun a t ht => ?_⟩
  · obtain ⟨r, hr', e1, i, hi, e2, e3⟩ := rowsSp_shard F rs s hs
    obtain ⟨x, hx, _⟩ := rowE_some (hr r hr')
    rw [e3, e1, e2]
    unfold lensOf
    rw [hx]
    exact h.lens _ _ hx i
  · have ht' : lenS F rs a = some t := ht
    unfold lenS at ht'
    rw [segN_app, hsg]
    cases hf : rs.find? (fun r => r.1 == a) with
    | none =>
      rw [hf] at ht'
      simp only at ht' ⊢
      rw [Int.add_zero]; exact h.lens a t ht' g
    | some r =>
      rw [hf] at ht'
      simp only at ht' ⊢
      have hra : r.1 = a := by have := List.find?_some hf; simpa using this
      obtain ⟨x, hx, _, _, hle⟩ := rowE_some (hr r (List.mem_of_find?_eq_some hf))
      rw [hra] at hx
      rw [hx] at ht'
      simp at ht'
      subst ht'
      simp only
      rw [atI_cut]
      have h1 := h.lens a x hx g
      have h2 : lensOf F a = x.lens := by unfold lensOf; rw [hx]
      rw [h2]
      by_cases hg : g < r.2.length
      · rw [if_pos hg]; omega
      · rw [if_neg hg]
        have h3 := le_iff.1 hle g
        have h4 : atI r.2 g = 0 := by unfold atI; rw [if_pos (by omega), Int.toNat_natCast, List.getD_eq_getElem?_getD, List.getElem?_eq_none (by omega)]; rfl
        have h5 := ((h.segs a x hx).2.2.2.at g).1
        omega
  · have keep : ∀ a t, F.sh a = some t → ∃ t', (cutF F rs).sh a = some t' ∧ t'.segs = t.segs := by
      intro a t ht
      show ∃ t', lenS F rs a = some t' ∧ _
      unfold lenS
      cases hf : rs.find? (fun r => r.1 == a) with
      | none => exact ⟨t, ht, rfl⟩
      | some r => simp only; rw [ht]; exact ⟨_, rfl, rfl⟩
    rcases List.mem_append.1 hs with hs | hs
    · obtain ⟨h1, t, g, h2, h3, h4⟩ := h.home s hs
      obtain ⟨t', k1, k2⟩ := keep _ _ h2
      exact ⟨h1, t', g, k1, h3, by omega⟩
    · obtain ⟨r, hr', e1, i, hi, e2, e3⟩ := rowsSp_shard F rs s hs
      obtain ⟨x, hx, _, hl, _⟩ := rowE_some (hr r hr')
      obtain ⟨t', k1, k2⟩ := keep _ _ hx
      rw [e1]
      exact ⟨hIdOk r hr', t', i, k1, e2, by omega⟩
  · have ht' : lenS F rs a = some t := ht
    unfold lenS at ht'
    cases hf : rs.find? (fun r => r.1 == a) with
    | none => rw [hf] at ht'; exact h.segs a t ht'
    | some r =>
      rw [hf] at ht'
      simp only at ht'
      have hra : r.1 = a := by have := List.find?_some hf; simpa using this
      have hmem := List.mem_of_find?_eq_some hf
      obtain ⟨x, hx, _, hl, _⟩ := rowE_some (hr r hmem)
      rw [hra] at hx
      rw [hx] at ht'
      simp at ht'
      subst ht'
      have h1 := h.segs a x hx
      refine ⟨h1.1, ?_, h1.2.2.1, fun y hy => hu r hmem y (cutI_mem hy)⟩
      have := cutI_len r.2
      simp only
      omega
end Go.Proofs.Ytabanackdjlcmaa

namespace Go.Proofs.Ytabanackdjlcmaa
open Go.ChangeShapes Go.WideShapes Go.ChangeAt Go.RowKit Go.Maps
set_option maxRecDepth 100000

/-- Of the positions below p, how many are a segment's. -/
def amt (a g p : Int) (X : List Sp) : Int := (X.map fun x => if ofSeg a g x then max 0 (min x.many (p - x.pos)) else 0).sum
theorem amt_cons (a g p : Int) (x : Sp) (X : List Sp) : amt a g p (x :: X) = (if ofSeg a g x then max 0 (min x.many (p - x.pos)) else 0) + amt a g p X := by simp [amt]
theorem amt_app (a g p : Int) (X Y : List Sp) : amt a g p (X ++ Y) = amt a g p X + amt a g p Y := by simp [amt]
theorem amt_done {a g p : Int} {X : List Sp} (h : ∀ x ∈ X, 0 < x.many ∧ x.pos + x.many ≤ p) : amt a g p X = segN a g X := by
  induction X with
  | nil => rfl
  | cons x r ih =>
    have h1 := h x (by simp)
    rw [amt_cons, segN_cons, ih (fun y hy => h y (by simp [hy]))]
    split <;> omega
theorem amt_none {a g p : Int} {X : List Sp} (h : ∀ x ∈ X, p ≤ x.pos) : amt a g p X = 0 := by
  induction X with
  | nil => rfl
  | cons x r ih =>
    have h1 := h x (by simp)
    rw [amt_cons, ih (fun y hy => h y (by simp [hy]))]
    split <;> omega
theorem segN_posSp (a g n : Int) (L : List Sp) : segN a g (posSp n L) = segN a g L := by
  induction L generalizing n with
  | nil => rfl
  | cons s r ih =>
    show segN a g ({ s with pos := n } :: posSp (n + s.many) r) = _
    rw [segN_cons, segN_cons, ih]; rfl
theorem posSp_split (n : Int) (L : List Sp) (k : Nat) (x : Sp) (h : (posSp n L)[k]? = some x) :
    ∃ A s B, L = A ++ s :: B ∧ A.length = k ∧ x = { s with pos := n + sumI (manyOf A) } ∧ posSp n L = posSp n A ++ x :: posSp (n + sumI (manyOf A) + s.many) B := by
  induction L generalizing n k with
  | nil => simp [posSp] at h
  | cons s r ih =>
    cases k with
    | zero =>
      have h' : ({ s with pos := n } : Sp) = x := by simpa [posSp] using h
      refine ⟨[], s, r, rfl, rfl, by rw [← h']; simp [manyOf, sumI], ?_⟩
      rw [← h']
      simp [posSp, manyOf, sumI]
    | succ k =>
      have h' : (posSp (n + s.many) r)[k]? = some x := by simpa [posSp] using h
      obtain ⟨A, t, B, e1, e2, e3, e4⟩ := ih (n + s.many) k h'
      refine ⟨s :: A, t, B, by rw [e1]; rfl, by simp [e2], ?_, ?_⟩
      · rw [e3, manyOf_cons, sumI_cons, Int.add_assoc]
      · show ({ s with pos := n } : Sp) :: posSp (n + s.many) r = _
        rw [e4, manyOf_cons, sumI_cons]
        show _ = ({ s with pos := n } : Sp) :: posSp (n + s.many) A ++ _
        simp only [Int.add_assoc, List.cons_append]
/-- What the law sees of one position. -/
structure At (F : FS) (p : Int) (k : Nat) (x : Sp) : Prop where
  id : IdOk x.shard
  seg : ∃ g : Nat, x.seg = g ∧ g < 4 ∧ ∃ t, F.sh x.shard = some t ∧ g < t.segs
  off : x.off + p - x.pos = amt x.shard x.seg p F.l
  next : ∀ a g, amt a g (p + 1) F.l = amt a g p F.l + if ofSeg a g x then 1 else 0
  hit : spHit x.shard x.seg (x.off + p - x.pos) x = true
  only : ∀ (j : Nat) (y : Sp), j < k → F.l[j]? = some y → spHit x.shard x.seg (x.off + p - x.pos) y = false
  pos : 0 ≤ x.pos
theorem Den.at {F : FS} {L : List Sp} (h : Den F L) {p : Int} {k : Nat} {x : Sp} (hk : F.l[k]? = some x) (h1 : x.pos ≤ p) (h2 : p < x.pos + x.many) : At F p k x := by
  have hm : ∀ s ∈ L, 0 < s.many := fun s hs => (h.base.ok s hs).1
  rw [h.base.l] at hk
  obtain ⟨A, s, B, e1, e2, e3, e4⟩ := posSp_split 0 L k x hk
  have hA : ∀ y ∈ posSp 0 A, 0 < y.many ∧ y.pos + y.many ≤ x.pos := by
    intro y hy
    have b := posSp_bounds (fun z hz => hm z (by rw [e1]; simp [hz])) 0 y hy
    obtain ⟨z, hz, _, _, _, f4⟩ := posSp_mem 0 hy
    have := hm z (by rw [e1]; simp [hz])
    rw [e3]
    simp only
    omega
  have hB : ∀ y ∈ posSp (0 + sumI (manyOf A) + s.many) B, p + 1 ≤ y.pos := by
    intro y hy
    have b := posSp_bounds (fun z hz => hm z (by rw [e1]; simp [hz])) _ y hy
    rw [e3] at h2
    simp only at h2
    omega
  have hs : s ∈ L := by rw [e1]; simp
  have ex : x.shard = s.shard ∧ x.seg = s.seg ∧ x.off = s.off ∧ x.many = s.many := by rw [e3]; exact ⟨rfl, rfl, rfl, rfl⟩
  obtain ⟨x1, x2, x3, x4⟩ := ex
  have ho := h.offs A s B e1
  have hamt : ∀ a g, amt a g p F.l = segN a g A + if ofSeg a g x then p - x.pos else 0 := by
    intro a g
    rw [h.base.l, e4, amt_app, amt_cons, amt_done (fun y hy => ⟨(hA y hy).1, by have := (hA y hy).2; omega⟩), amt_none (fun y hy => by have := hB y hy; omega), segN_posSp]
    split <;> omega
  have hamt2 : ∀ a g, amt a g (p + 1) F.l = segN a g A + if ofSeg a g x then p + 1 - x.pos else 0 := by
    intro a g
    rw [h.base.l, e4, amt_app, amt_cons, amt_done (fun y hy => ⟨(hA y hy).1, by have := (hA y hy).2; omega⟩), amt_none (fun y hy => hB y hy), segN_posSp]
    split <;> omega
  obtain ⟨hi, t, g, t1, t2, t3⟩ := h.home s hs
  refine ⟨by rw [x1]; exact hi, ⟨g, by rw [x2, t2], by have := (h.segs _ _ t1).1; omega, t, by rw [x1]; exact t1, t3⟩, ?_, fun a g => ?_, ?_, fun j y hj hy => ?_, ?_⟩
  · rw [hamt, if_pos ⟨rfl, rfl⟩, x1, x2, x3, ho]; omega
  · rw [hamt, hamt2]; split <;> omega
  · unfold spHit
    simp only [decide_true, Bool.true_and, Bool.and_eq_true, decide_eq_true_eq]
    omega
  · rw [h.base.l] at hy
    obtain ⟨A', s', B', f1, f2, f3, f4⟩ := posSp_split 0 L j y hy
    unfold spHit
    by_cases c1 : y.shard = x.shard
    · by_cases c2 : y.seg = x.seg
      · -- same segment: it ends ahead
        have hlen : A'.length < A.length := by omega
        obtain ⟨C, hC⟩ : ∃ C, A = A' ++ s' :: C := by
          have hcut : (A ++ s :: B).take A.length = (A' ++ s' :: B').take A.length := by rw [← e1, f1]
          rw [List.take_left, List.take_append, List.take_of_length_le (by omega)] at hcut
          obtain ⟨d, hd⟩ : ∃ d, A.length - A'.length = d + 1 := ⟨A.length - A'.length - 1, by omega⟩
          rw [hd, List.take_succ_cons] at hcut
          exact ⟨_, hcut⟩
        have g1 := h.offs A' s' B' f1
        have y1 : y.shard = s'.shard ∧ y.seg = s'.seg ∧ y.off = s'.off ∧ y.many = s'.many := by rw [f3]; exact ⟨rfl, rfl, rfl, rfl⟩
        obtain ⟨y1, y2, y3, y4⟩ := y1
        have g2 : segN s.shard s.seg A = segN s.shard s.seg A' + (s'.many + segN s.shard s.seg C) := by
          rw [hC, segN_app, segN_cons, if_pos ⟨by omega, by omega⟩]
        have g3 : segN s'.shard s'.seg A' = segN s.shard s.seg A' := by
          rw [show s'.shard = s.shard by omega, show s'.seg = s.seg by omega]
        have g4 : 0 ≤ segN s.shard s.seg C := segN_pos (fun z hz => hm z (by rw [e1, hC]; simp [hz]))
        have : ¬ (x.off + p - x.pos - y.off < y.many) := by omega
        simp [this]
      · simp [c2]
    · simp [c1]
  · rw [e3]
    have := sumI_pos (L := A) (fun z hz => hm z (by rw [e1]; simp [hz]))
    simp only
    omega
theorem Den.small {F : FS} {L : List Sp} (h : Den F L) : ∀ s ∈ L, 0 ≤ s.off ∧ s.off + s.many ≤ F.n := by
  intro s hs
  have hm : ∀ s ∈ L, 0 < s.many := fun s hs => (h.base.ok s hs).1
  obtain ⟨A, B, e⟩ := List.append_of_mem hs
  have h1 := h.offs A s B e
  have h2 := segN_le (a := s.shard) (g := s.seg) (L := A) (fun z hz => hm z (by rw [e]; simp [hz]))
  have h3 := sumI_pos (L := B) (fun z hz => hm z (by rw [e]; simp [hz]))
  have h4 := (h.base.ok s hs).2.1
  rw [h.base.n, e, manyOf_app, sumI_app, manyOf_cons, sumI_cons]
  omega
theorem Den.len {F : FS} {L : List Sp} (h : Den F L) : (L.length : Int) ≤ F.n := by
  have hm : ∀ s ∈ L, 0 < s.many := fun s hs => (h.base.ok s hs).1
  rw [h.base.n]
  clear h
  induction L with
  | nil => simp [manyOf, sumI]
  | cons s r ih =>
    have := ih (fun x hx => hm x (by simp [hx]))
    have := hm s (by simp)
    rw [manyOf_cons, sumI_cons, List.length_cons]; omega

theorem sum_zero {α : Type} (l : List α) (f : α → Int) (h : ∀ a ∈ l, f a = 0) : (l.map f).sum = 0 := by
  induction l with
  | nil => rfl
  | cons x r ih => rw [List.map_cons, List.sum_cons, h x (by simp), ih (fun a ha => h a (by simp [ha]))]; rfl
theorem sum_plus {α : Type} (l : List α) (f g : α → Int) : (l.map fun a => f a + g a).sum = (l.map f).sum + (l.map g).sum := by
  induction l with
  | nil => rfl
  | cons x r ih => simp only [List.map_cons, List.sum_cons, ih]; omega
theorem sum_pick {α : Type} [DecidableEq α] {l : List α} (hn : l.Nodup) {x : α} (hx : x ∈ l) (m : Int) : (l.map fun a => if x = a then m else 0).sum = m := by
  induction l with
  | nil => cases hx
  | cons y r ih =>
    have hn' := List.nodup_cons.1 hn
    rw [List.map_cons, List.sum_cons]
    by_cases e : x = y
    · subst e
      rw [if_pos rfl, sum_zero r _ (fun a ha => if_neg (fun (e : x = a) => hn'.1 (by rw [e]; exact ha)))]; omega
    · rw [if_neg e, ih hn'.2 (by rcases List.mem_cons.1 hx with h | h; exact absurd h e; exact h)]; omega
theorem segs_all {ids : List Int} (hn : ids.Nodup) {L : List Sp} (h : ∀ s ∈ L, s.shard ∈ ids ∧ ∃ g : Nat, s.seg = g ∧ g < 4) : (ids.map fun a => ((List.range 4).map fun g : Nat => segN a g L).sum).sum = sumI (manyOf L) := by
  induction L with
  | nil =>
    rw [sum_zero]
    · rfl
    · intro a _; exact sum_zero _ _ (fun g _ => rfl)
  | cons s r ih =>
    obtain ⟨h1, g, h2, h3⟩ := h s (by simp)
    have e : ∀ a, ((List.range 4).map fun g : Nat => segN a g (s :: r)).sum = (if s.shard = a then s.many else 0) + ((List.range 4).map fun g : Nat => segN a g r).sum := by
      intro a
      simp only [segN_cons]
      rw [sum_plus]
      congr 1
      by_cases c : s.shard = a
      · rw [if_pos c]
        have := sum_pick (l := List.range 4) List.nodup_range (List.mem_range.2 h3) s.many
        refine Eq.trans ?_ this
        congr 1
        refine List.map_congr_left fun i _ => ?_
        by_cases d : g = i
        · subst d; rw [if_pos rfl, if_pos ⟨c, h2⟩]
        · rw [if_neg d, if_neg (by rintro ⟨_, hh⟩; omega)]
      · rw [if_neg c, sum_zero _ _ (fun i _ => if_neg (fun hh => c hh.1))]
    simp only [e]
    rw [sum_plus, sum_pick hn h1, ih (fun x hx => h x (by simp [hx])), manyOf_cons, sumI_cons]
theorem Den.total {F : FS} {L : List Sp} (h : Den F L) : sumI ((shL F).map fun t => sumI t.lens) = F.n := by
  rw [h.base.n, ← segs_all (ids := shIds F) ((shIds_lt F).imp (fun h => by omega)) (L := L) (fun s hs => ?_)]
  · unfold sumI shL
    have : ∀ l : List Int, (∀ a ∈ l, (F.sh a).isSome = true) → ((l.filterMap F.sh).map fun t => t.lens.sum) = l.map fun a => ((List.range 4).map fun g : Nat => segN a g L).sum := by
      intro l
      induction l with
      | nil => intro _; rfl
      | cons a r ih =>
        intro ha
        obtain ⟨t, ht⟩ := Option.isSome_iff_exists.1 (ha a (by simp))
        rw [List.filterMap_cons, ht]
        simp only [List.map_cons]
        rw [ih (fun b hb => ha b (by simp [hb]))]
        congr 1
        have := sum_at t.lens 4 (h.segs a t ht).2.1
        unfold sumI at this
        rw [this]
        congr 1
        exact List.map_congr_left fun g _ => h.lens a t ht g
    rw [this _ (fun a ha => ((shIds_mem F a).1 ha).2)]
  · obtain ⟨h1, t, g, h2, h3, h4⟩ := h.home s hs
    exact ⟨(shIds_mem F _).2 ⟨h1, by rw [h2]; rfl⟩, g, h3, by have := (h.segs _ _ h2).1; omega⟩
/-- Whatever command that gives up nothing. -/
theorem Den.do {F : FS} {L : List Sp} (h : Den F L) {c : Cm} (hc : checkB c = true) (hu : ∀ r ∈ c.rows, U64 r.2) (h3 : c.op ≠ 3) : ∃ M, Den (doF F c) M := by
  unfold checkB checkA at hc
  simp only [Bool.and_eq_true, decide_eq_true_eq, Bool.or_eq_true, bne_iff_ne, ne_eq] at hc
  obtain ⟨⟨⟨⟨⟨_, hs0⟩, hs1⟩, hrb⟩, hadd⟩, _⟩ := hc
  unfold doF
  split
  · rename_i h1
    unfold addR
    cases hs : F.sh c.shard with
    | some s => exact ⟨L, h⟩
    | none =>
      have hno : ∀ s ∈ L, s.shard ≠ c.shard := by
        intro s hs' e
        obtain ⟨_, t, g, h2, _⟩ := h.home s hs'
        rw [e, hs] at h2; cases h2
      refine ⟨L, ⟨h.base.l, h.base.n, h.base.ok⟩, h.offs, fun a t ht g => ?_, fun s hs' => ?_, h.low, fun a t ht => ?_⟩
      · have ht' : (if a = c.shard then some (⟨c.shard, c.segs.toNat, [], false⟩ : Sh) else F.sh a) = some t := ht
        by_cases e : a = c.shard
        · rw [if_pos e] at ht'
          cases ht'
          rw [segN_none (fun s hs' => by rintro ⟨hh, _⟩; exact hno s hs' (by omega))]
          unfold atI; rw [if_pos (by omega)]; simp
        · rw [if_neg e] at ht'; exact h.lens a t ht' g
      · obtain ⟨h1', t, g, h2, h4, h5⟩ := h.home s hs'
        refine ⟨h1', t, g, ?_, h4, h5⟩
        show (if s.shard = c.shard then _ else F.sh s.shard) = some t
        rw [if_neg (hno s hs')]; exact h2
      · have ht' : (if a = c.shard then some (⟨c.shard, c.segs.toNat, [], false⟩ : Sh) else F.sh a) = some t := ht
        by_cases e : a = c.shard
        · rw [if_pos e] at ht'
          cases ht'
          rcases hadd with hh | hh
          · exact absurd h1 hh
          · exact ⟨by simp only; omega, by simp, e.symm, by intro x hx; cases hx⟩
        · rw [if_neg e] at ht'; exact h.segs a t ht'
  split
  · unfold sealR
    split
    · rename_i he
      have hce : cutE F c.rows = 0 := by
        unfold sealE at he
        split at he
        · exact he
        · rename_i hh; exact absurd he hh
      have hd := h.cut hce hrb hu
      refine ⟨_, ⟨hd.base.l, hd.base.n, hd.base.ok⟩, hd.offs, fun a t ht g => ?_, fun s hs' => ?_, hd.low, fun a t ht => ?_⟩
      · have ht' : (if a = c.shard then ((cutF F c.rows).sh c.shard).map (fun s => { s with fin := true }) else (cutF F c.rows).sh a) = some t := ht
        by_cases e : a = c.shard
        · rw [if_pos e, ← e] at ht'
          obtain ⟨u, hu1, hu2⟩ := Option.map_eq_some_iff.1 ht'
          rw [← hu2]; exact hd.lens a u hu1 g
        · rw [if_neg e] at ht'; exact hd.lens a t ht' g
      · obtain ⟨h1', t, g, h2, h4, h5⟩ := hd.home s hs'
        by_cases e : s.shard = c.shard
        · refine ⟨h1', { t with fin := true }, g, ?_, h4, h5⟩
          show (if s.shard = c.shard then ((cutF F c.rows).sh c.shard).map (fun s => { s with fin := true }) else (cutF F c.rows).sh s.shard) = _
          rw [if_pos e, ← e, h2]; rfl
        · refine ⟨h1', t, g, ?_, h4, h5⟩
          show (if s.shard = c.shard then ((cutF F c.rows).sh c.shard).map (fun s => { s with fin := true }) else (cutF F c.rows).sh s.shard) = _
          rw [if_neg e]; exact h2
      · have ht' : (if a = c.shard then ((cutF F c.rows).sh c.shard).map (fun s => { s with fin := true }) else (cutF F c.rows).sh a) = some t := ht
        by_cases e : a = c.shard
        · rw [if_pos e, ← e] at ht'
          obtain ⟨u, hu1, hu2⟩ := Option.map_eq_some_iff.1 ht'
          rw [← hu2]; exact hd.segs a u hu1
        · rw [if_neg e] at ht'; exact hd.segs a t ht'
    · exact ⟨L, h⟩
  split
  · unfold cutR
    split
    · exact ⟨_, h.cut (by assumption) hrb hu⟩
    · exact ⟨L, h⟩
  · exact ⟨L, h⟩
theorem Den.apply {F : FS} {L : List Sp} (h : Den F L) {c : Cm} (hu : ∀ r ∈ c.rows, U64 r.2) (h3 : c.op ≠ 3) : ∃ M, Den (applyF F c) M := by
  unfold applyF
  split
  · rename_i hc
    obtain ⟨M, hd⟩ := h.do hc hu h3
    split
    · exact ⟨M, hd⟩
    · split
      · exact ⟨L, h⟩
      · exact ⟨M, ⟨hd.base.l, hd.base.n, hd.base.ok⟩, hd.offs, hd.lens, hd.home, hd.low, hd.segs⟩
  · exact ⟨L, h⟩
/-- The law's array. -/
def lastA (F : FS) (p : Int) : List Int := (List.range 64).map fun i => amt ((i % 8 : Nat) : Int) ((i / 8 : Nat) : Int) p F.l
theorem lastA_len (F : FS) (p : Int) : (lastA F p).length = 64 := by simp [lastA]
theorem lastA_at (F : FS) (p : Int) {h g : Nat} (hh : h < 8) (hg : g < 4) : (lastA F p)[8 * g + h]? = some (amt h g p F.l) := by
  unfold lastA
  rw [List.getElem?_map, List.getElem?_range (by omega)]
  simp only [Option.map_some]
  rw [show (8 * g + h) % 8 = h by omega, show (8 * g + h) / 8 = g by omega]
theorem lastA_zero {F : FS} {L : List Sp} (h : Den F L) : lastA F 0 = List.replicate 64 0 := by
  have hm : ∀ s ∈ L, 0 < s.many := fun s hs => (h.base.ok s hs).1
  refine List.ext_getElem (by simp [lastA]) (fun i h1 h2 => ?_)
  simp only [lastA, List.getElem_map, List.getElem_replicate]
  exact amt_none (fun x hx => (posSp_bounds hm 0 x (h.base.l ▸ hx)).1)
theorem lastA_next {F : FS} {p : Int} {k : Nat} {x : Sp} (ha : At F p k x) {hh g : Nat} (e1 : x.shard = hh) (e2 : x.seg = g) (h1 : hh < 8) (h2 : g < 4) : (lastA F p).set (8 * g + hh) (x.off + p - x.pos + 1) = lastA F (p + 1) := by
  refine List.ext_getElem (by simp [lastA]) (fun i h3 h4 => ?_)
  have hi : i < 64 := by simpa [lastA] using h4
  rw [List.getElem_set]
  simp only [lastA, List.getElem_map, List.getElem_range]
  rw [ha.next, ha.off]
  by_cases e : 8 * g + hh = i
  · subst e
    rw [if_pos rfl, show (8 * g + hh) % 8 = hh by omega, show (8 * g + hh) / 8 = g by omega, e1, e2, if_pos ⟨e1, e2⟩]
  · rw [if_neg e, if_neg (by rintro ⟨c1, c2⟩; omega), Int.add_zero]
end Go.Proofs.Ytabanackdjlcmaa

namespace Go.Proofs.Ytabanackdjlcmaa
open Go.ChangeShapes Go.WideShapes Go.ChangeAt Go.RowKit Go.Maps
set_option maxRecDepth 100000

/-- The span that a position lies in. -/
theorem Den.span {F : FS} {L : List Sp} (h : Den F L) {p : Int} (h0 : 0 ≤ p) (h1 : p < F.n) : ∃ (k : Nat) (x : Sp), F.l[k]? = some x ∧ x.pos ≤ p ∧ p < x.pos + x.many ∧ At F p k x := by
  have hm : ∀ s ∈ L, 0 < s.many := fun s hs => (h.base.ok s hs).1
  obtain ⟨k, x, hk, hs1, hs2⟩ := posSp_find hm 0 (p := p) h0 (by rw [Int.zero_add, ← h.base.n]; exact h1)
  rw [← h.base.l] at hk
  exact ⟨k, x, hk, hs1, hs2, h.at hk hs1 hs2⟩
theorem Den.find {F : FS} {L : List Sp} (h : Den F L) {q : Value} {D : Nat → Prop} {w : World} {N : Nat} (hf : FoldO q D w N F) {p : Int} (h0 : 0 ≤ p) (h1 : p < F.n) (hn : F.n ≤ 200) {k : Nat} {x : Sp} (hk : F.l[k]? = some x) (hs1 : x.pos ≤ p) (hs2 : p < x.pos + x.many) :
    Calls Try.prog 27 #[q, .int .u64 p] w fun e w' => e = .returned (.tuple #[.int .i64 x.shard, .int .i64 x.seg, .int .u64 (x.off + p - x.pos), .int .i64 0]) ∧ Below w.heap.size w w' := by
  have hm : ∀ s ∈ L, 0 < s.many := fun s hs => (h.base.ok s hs).1
  have hl := h.len
  have hso := posSp_sorted hm 0
  rw [← h.base.l] at hso
  obtain ⟨y, hy, e1, e2, e3, e4⟩ := posSp_mem 0 (h.base.l ▸ List.mem_of_getElem? hk)
  have hb := posSp_bounds hm 0 x (h.base.l ▸ List.mem_of_getElem? hk)
  have h2 := h.small y hy
  have hy2 := hm y hy
  refine hf.find (by rw [h.low]; exact h0) h1 (by rw [h.base.l, posSp_len]; omega) (fun a b p q hab ha hb => ?_) hk hs1 (fun j z hj hx => ?_) ⟨by omega, hb.1, by omega⟩
  · have h4 := hso a b p q hab ha hb
    obtain ⟨z, hz, f1, f2, f3, f4⟩ := posSp_mem 0 (h.base.l ▸ List.mem_of_getElem? ha)
    have := hm z hz
    omega
  · have := hso k j x z hj hk hx
    omega
theorem Den.place {F : FS} {L : List Sp} (h : Den F L) {q : Value} {D : Nat → Prop} {w : World} {N : Nat} (hf : FoldO q D w N F) {p : Int} (h0 : 0 ≤ p) (h1 : p < F.n) (hn : F.n ≤ 200) {k : Nat} {x : Sp} (hk : F.l[k]? = some x) (hs1 : x.pos ≤ p) (hs2 : p < x.pos + x.many) (ha : At F p k x) :
    Calls Try.prog 33 #[q, .int .i64 x.shard, .int .i64 x.seg, .int .u64 (x.off + p - x.pos)] w fun e w' => e = .returned (.tuple #[.int .u64 p, .int .i64 0]) ∧ Below w.heap.size w w' := by
  have hm : ∀ s ∈ L, 0 < s.many := fun s hs => (h.base.ok s hs).1
  have hl := h.len
  obtain ⟨y, hy, e1, e2, e3, e4⟩ := posSp_mem 0 (h.base.l ▸ List.mem_of_getElem? hk)
  have hb := posSp_bounds hm 0 x (h.base.l ▸ List.mem_of_getElem? hk)
  have h2 := h.small y hy
  have hy2 := hm y hy
  obtain ⟨g, g1, g2, t, t1, t2⟩ := ha.seg
  have := hf.place (shard := x.shard) (seg := x.seg) (off := x.off + p - x.pos) ha.id t1 (by omega) (by omega) ⟨by omega, by omega⟩ (by rw [h.base.l, posSp_len]; omega) (fun z hz => by
    obtain ⟨u, hu, f1, f2, f3, f4⟩ := posSp_mem 0 (h.base.l ▸ hz)
    have := h.small u hu
    omega) hk ha.hit ha.only ⟨ha.pos, by omega⟩
  rwa [show x.pos + (x.off + p - x.pos) - x.off = p by omega] at this
theorem made_u64 (n : Nat) : (u64s (List.replicate n 0)).toArray = madeCells #[.int .u64 0] n := by
  apply Array.ext
  · simp [madeCells]
  · intro i h1 h2
    simp [madeCells, Nat.mod_one]
/-- A state beside the law's array. -/
def FoldB (W : World) (q : Value) (w : World) (N : Nat) (F : FS) (LB : Nat) (xs : List Int) : Prop :=
  ∃ D, Sep W.heap.size w [obFd q D N F, obBlk LB (.cells (u64s xs).toArray 39)] ∧ Below W.heap.size W w
section
variable {W w w' : World} {q : Value} {N : Nat} {F : FS} {LB : Nat} {xs : List Int}
theorem FoldB.below (h : FoldB W q w N F LB xs) : Below W.heap.size W w := by obtain ⟨_, _, hb⟩ := h; exact hb
theorem FoldB.step (h : FoldB W q w N F LB xs) (hb : Below w.heap.size w w') : FoldB W q w' N F LB xs := by
  obtain ⟨D, h1, h2⟩ := h
  exact ⟨D, h1.step hb, h2.trans (hb.mono h2.size)⟩
theorem FoldB.one (h : FoldB W q w N F LB xs) : FoldW W q w N F := by
  obtain ⟨D, h1, h2⟩ := h
  exact ⟨D, h1.get 0 rfl, fun k hk => h1.base _ (List.mem_cons_self ..) k hk, h2⟩
theorem FoldB.fo (h : FoldB W q w N F LB xs) : ∃ D, FoldO q D w N F := by
  obtain ⟨D, h1, _⟩ := h
  exact ⟨D, h1.get 0 rfl⟩
theorem FoldB.blk (h : FoldB W q w N F LB xs) : w.heap[LB]? = some (.cells (u64s xs).toArray 39) := by
  obtain ⟨D, h1, _⟩ := h
  exact h1.get 1 rfl
theorem FoldB.cell (h : FoldB W q w N F LB xs) {i : Nat} {x : Int} (hx : xs[i]? = some x) : w.cell? ⟨LB, i, none⟩ = some (.int .u64 x) ∧ w.frozen? ⟨LB, i, none⟩ = false := by
  have hb := h.blk
  exact ⟨by rw [cell_of_row w LB i _ _ _ hb, List.getElem?_toArray, List.getElem?_map, hx]; rfl, by simp [World.frozen?, hb]⟩
theorem FoldB.set (h : FoldB W q w N F LB xs) (i : Nat) (x : Int) : FoldB W q (w.setCell ⟨LB, i, none⟩ (.int .u64 x)) N F LB (xs.set i x) := by
  have hb := h.blk
  obtain ⟨D, h1, h2⟩ := h
  have hk := (Keep.refl (fun q => q = LB) w).setCell (p := ⟨LB, i, none⟩) (Or.inl rfl) (.int .u64 x)
  refine ⟨D, h1.set 1 rfl hk (obBlk_good LB (.cells (u64s (xs.set i x)).toArray 39)) ?_ (fun k hk => Or.inl hk), h1.belowAt h2 1 rfl hk⟩
  have := heap_setCell_same w LB i _ _ (.int .u64 x) hb
  rw [List.setIfInBounds_toArray] at this
  show (w.setCell ⟨LB, i, none⟩ (.int .u64 x)).heap[LB]? = _
  rw [this, show (u64s xs).set i (.int .u64 x) = u64s (xs.set i x) from (List.map_set ..).symm]
theorem FoldW.made (h : FoldW W q w N F) {n : Nat} (hn : n = 64) : FoldB W q (w.alloc (.cells (madeCells #[.int .u64 0] n) 39)) N F w.heap.size (List.replicate 64 0) := by
  subst hn
  obtain ⟨D, h1, h2, h3⟩ := h
  have hs : Sep W.heap.size w [obFd q D N F] := ⟨by intro o ho; simp at ho; subst ho; exact obFd_good .., by intro o ho; simp at ho; subst ho; exact h1, by intro o ho k hk; simp at ho; subst ho; exact h2 k hk, List.pairwise_singleton _ _, h3.size⟩
  have hA := (Below.refl w.heap.size w).alloc (Nat.le_refl _) (.cells (madeCells #[.int .u64 0] 64) 39)
  have h4 := hs.new hA (obBlk_good w.heap.size (.cells (u64s (List.replicate 64 0)).toArray 39)) (by
    show (w.alloc (.cells (madeCells #[.int .u64 0] 64) 39)).heap[w.heap.size]? = _
    have e := made_u64 64
    rw [e]; exact heap_alloc_new w _) (fun k hk => by rw [show k = w.heap.size from hk]; exact Nat.le_refl _)
  exact ⟨D, h4.perm (List.Perm.swap _ _ _), h3.trans (hA.mono h3.size)⟩
end
end Go.Proofs.Ytabanackdjlcmaa
