/-
  GatherSafe: of any number of segments, any reports, any lengths that were cut ahead: what is cut is on all replicas of its shard, or was cut ahead; it may be applied to the state that it comes of. No condition: every input.
-/
import Derived.Test.YtabanackdjlcmaaApl2
import Derived.Test.YtabanackdjlcmaaGatW
import Derived.Test.YtabanackdjlcmaaShards2
import Derived.Test.YtabanackdjlcmaaFGroQ
import Derived.Test.YtabanackdjlcmaaRegU
import Derived.Test.YtabanackdjlcmaaFrame
namespace Go.Proofs.Ytabanackdjlcmaa
open Go.ChangeShapes Go.WideShapes Go.ChangeAt Go.RowKit Go.Maps
set_option maxRecDepth 100000

theorem dropW_twice (p : Int → Bool) (l : List Int) : (l.dropWhile p).dropWhile p = l.dropWhile p := by
  induction l with
  | nil => rfl
  | cons x r ih =>
    by_cases h : p x = true
    · rw [List.dropWhile_cons_of_pos h]; exact ih
    · rw [List.dropWhile_cons_of_neg h, List.dropWhile_cons_of_neg h]
theorem cutI_two (xs : List Int) : cutI (cutI xs) = cutI xs := by
  unfold cutI
  rw [List.reverse_reverse, dropW_twice]
theorem cutI_u64 {xs : List Int} (h : U64 xs) : U64 (cutI xs) := fun x hx => h x (cutI_mem hx)
theorem at_mem {xs : List Int} {x : Int} (h : x ∈ xs) : ∃ i : Nat, x = atI xs i := by
  obtain ⟨i, hi, rfl⟩ := List.getElem_of_mem h
  exact ⟨i, (atI_of_lt xs i hi).symm⟩
theorem maxI_u64 {L : List (List Int)} (h : ∀ r ∈ L, U64 r) : U64 (maxI L) := by
  intro x hx
  obtain ⟨i, rfl⟩ := at_mem hx
  rw [atI_maxI]
  exact foldI_at_mem max L 18446744073709551615 (fun x y h1 h2 h3 h4 => by omega) (by decide) (fun r hr i => (h r hr).at i) i
theorem minI_u64 {L : List (List Int)} (h : ∀ r ∈ L, U64 r) : U64 (minI L) := by
  intro x hx
  obtain ⟨i, rfl⟩ := at_mem hx
  rw [atI_minI]
  exact foldI_at_mem min L 18446744073709551615 (fun x y h1 h2 h3 h4 => by omega) (by decide) (fun r hr i => (h r hr).at i) i
theorem maxI_cut (L : List (List Int)) : cutI (maxI L) = maxI L := by unfold maxI; exact cutI_two _
theorem fold_min_le (r : List (List Int)) (i : Nat) : ∀ s : Int, r.foldl (fun x row => min x (atI row i)) s ≤ s ∧ ∀ x ∈ r, r.foldl (fun x row => min x (atI row i)) s ≤ atI x i := by
  induction r with
  | nil => intro s; exact ⟨Int.le_refl _, by simp⟩
  | cons y r ih =>
    intro s
    have h := ih (min s (atI y i))
    simp only [List.foldl_cons]
    refine ⟨by omega, fun x hx => ?_⟩
    rcases List.mem_cons.1 hx with rfl | hx
    · omega
    · exact h.2 x hx
theorem atMin_le {L : List (List Int)} {x : List Int} (h : x ∈ L) (i : Nat) : atFold min L i ≤ atI x i := by
  cases L with
  | nil => cases h
  | cons v r =>
    have := fold_min_le r i (atI v i)
    rcases List.mem_cons.1 h with rfl | h
    · exact this.1
    · exact this.2 x h
theorem atI_take (xs : List Int) (n k : Nat) : atI (xs.take n) k = if k < n then atI xs k else 0 := by
  have e : ∀ ys : List Int, atI ys k = (ys[k]?).getD 0 := fun ys => by
    unfold atI
    rw [if_pos (by omega), List.getD_eq_getElem?_getD, Int.toNat_natCast]
  rw [e, e, List.getElem?_take]
  by_cases h : k < n
  · rw [if_pos h, if_pos h]
  · rw [if_neg h, if_neg h]; rfl
/-- Reports of the first k replicas. -/
def mK (R : List (List Int)) : Nat → Rep
  | 0 => fun _ _ => none
  | k + 1 => repG (mK R k) 2 k (R.getD k [])
theorem mK_at (R : List (List Int)) (k : Nat) (i : Nat) : mK R k 2 i = if i < k then some (maxI [[], R.getD i []]) else none := by
  induction k with
  | zero => simp [mK]
  | succ k ih =>
    unfold mK repG
    by_cases e : i = k
    · subst e
      rw [putG_self, if_pos (by omega), ih, if_neg (by omega)]; rfl
    · rw [putG_ne _ _ _ _ _ _ (by omega), ih]
      by_cases h : i < k
      · rw [if_pos h, if_pos (by omega)]
      · rw [if_neg h, if_neg (by omega)]
/-- The state that the cut comes of. -/
def sF1 (n : Nat) : FS := addR emptyFS 2 n
noncomputable def sF2 (n : Nat) (ls : List Int) : FS := cutR (sF1 n) [(2, cutI ls)]
structure One (F : FS) (n : Nat) (L0 : List Int) : Prop where
  at2 : F.sh 2 = some ⟨2, n, L0, false⟩
  other : ∀ a, a ≠ 2 → F.sh a = none
  len : L0.length ≤ n
  u : U64 L0
  n0 : 0 ≤ F.n
  l : F.l.length ≤ 1000
theorem sF1_at (n : Nat) (a : Int) : (sF1 n).sh a = if a = 2 then some ⟨2, n, [], false⟩ else none := rfl
theorem one_two (n : Nat) (hn : n ≤ 4) {ls : List Int} (hl : ls.length ≤ n) (hu : U64 ls) : ∃ L0, One (sF2 n ls) n L0 := by
  unfold sF2 cutR
  have hcl := cutI_len ls
  split
  · refine ⟨cutI (cutI ls), ?_, fun a ha => ?_, ?_, cutI_u64 (cutI_u64 hu), ?_, ?_⟩
    · show lenS (sF1 n) [(2, cutI ls)] 2 = _
      unfold lenS
      simp [sF1_at]
    · show lenS (sF1 n) [(2, cutI ls)] a = _
      unfold lenS
      have : ([(2, cutI ls)] : Rw).find? (fun r => r.1 == a) = none := by simp; omega
      rw [this]
      simp only
      rw [sF1_at, if_neg ha]
    · have := cutI_len (cutI ls); omega
    · show 0 ≤ (sF1 n).n + sumI (manyOf (rowsSp (sF1 n) [(2, cutI ls)]))
      have h0 : ∀ s ∈ rowsSp (sF1 n) [(2, cutI ls)], 0 < s.many := by
        intro s hs
        unfold rowsSp rowSp newSp at hs
        obtain ⟨r, _, hr⟩ := List.mem_flatMap.1 hs
        obtain ⟨i, _, hi⟩ := List.mem_flatMap.1 hr
        split at hi
        · simp at hi; subst hi; simp only; omega
        · simp at hi
      have : ∀ l : List Sp, (∀ s ∈ l, 0 < s.many) → 0 ≤ sumI (manyOf l) := by
        intro l
        induction l with
        | nil => intro _; simp [manyOf, sumI]
        | cons s r ih =>
          intro h
          have h1 := ih (fun x hx => h x (by simp [hx]))
          have h2 := h s (by simp)
          simp only [manyOf, sumI, List.map_cons, List.sum_cons] at h1 ⊢
          omega
      have := this _ h0
      have e : (sF1 n).n = 0 := rfl
      omega
    · show ([] ++ posSp 0 (rowsSp (sF1 n) [(2, cutI ls)])).length ≤ _
      rw [List.nil_append, posSp_len]
      have h1 := newSp_len (lensOf (sF1 n) 2) 2 (cutI ls) (cutI ls).length
      have e : rowsSp (sF1 n) [(2, cutI ls)] = newSp (lensOf (sF1 n) 2) 2 (cutI ls) (cutI ls).length := by simp [rowsSp, rowSp]
      rw [e]
      omega
  · exact ⟨[], rfl, fun a ha => by rw [sF1_at, if_neg ha], by simp, (by intro x hx; cases hx), Int.le_refl _, by simp [sF1, addR, emptyFS, putS]⟩
theorem One.shL {F : FS} {n : Nat} {L0 : List Int} (h : One F n L0) : shL F = [⟨2, n, L0, false⟩] := by
  have hi : shIds F = [2] := by
    refine List.Perm.eq_singleton ?_
    rw [List.perm_singleton]
    have h1 : ∀ a, a ∈ shIds F ↔ a = 2 := by
      intro a
      rw [shIds_mem]
      constructor
      · rintro ⟨_, h2⟩
        by_cases e : a = 2
        · exact e
        · rw [h.other a e] at h2; cases h2
      · rintro rfl
        exact ⟨⟨by decide, by decide⟩, by rw [h.at2]; rfl⟩
    have h2 := shIds_lt F
    cases hs : shIds F with
    | nil => rw [hs] at h1; have := (h1 2).2 rfl; cases this
    | cons a r =>
      rw [hs] at h1 h2
      have e := (h1 a).1 (by simp)
      subst e
      cases r with
      | nil => rfl
      | cons b r =>
        have e2 := (h1 b).1 (by simp)
        have := (List.pairwise_cons.1 h2).1 b (by simp)
        omega
  unfold Go.Proofs.Ytabanackdjlcmaa.shL
  rw [hi]
  simp [h.at2]
/-- The row that is cut. -/
def rowS (R : List (List Int)) (n : Nat) (L0 : List Int) : List Int := rowL (mK R n) 2 n L0
theorem leastS {R : List (List Int)} {n : Nat} : leastM (mK R n) 2 n = minI ((List.range n).map fun i => maxI [[], R.getD i []]) := by
  unfold leastM
  rw [leastB_true (fun i hi => by rw [mK_at, if_pos hi]; simp), if_pos rfl]
  unfold leastL
  congr 1
  refine List.map_congr_left fun i hi => ?_
  rw [mK_at, if_pos (List.mem_range.1 hi)]; rfl
theorem rowS_at {R : List (List Int)} {n : Nat} {L0 : List Int} (k : Nat) : atI (rowS R n L0) k = max (atI L0 k) (if k < n then atFold min ((List.range n).map fun i => maxI [[], R.getD i []]) k else 0) := by
  unfold rowS rowL
  rw [atI_max2, leastS, atI_take]
  by_cases h : k < n
  · rw [if_pos h, if_pos h, atI_minI]
  · rw [if_neg h, if_neg h]
theorem rowS_new {R : List (List Int)} {n : Nat} {L0 : List Int} (hR : ∀ r ∈ R, U64 r) (hn : n ≤ R.length) (hL : U64 L0) {k : Nat} (h : atI (rowS R n L0) k ≠ atI L0 k) : k < n ∧ ∀ i (hi : i < n), atI (rowS R n L0) k ≤ atI (R.getD i []) k := by
  rw [rowS_at] at h ⊢
  have h0 := (hL.at k).1
  by_cases hk : k < n
  · refine ⟨hk, fun i hi => ?_⟩
    rw [if_pos hk] at h ⊢
    have h1 := atMin_le (L := (List.range n).map fun i => maxI [[], R.getD i []]) (x := maxI [[], R.getD i []]) (List.mem_map.2 ⟨i, List.mem_range.2 hi, rfl⟩) k
    rw [atI_max2] at h1
    have hu : U64 (R.getD i []) := by
      rw [List.getD_eq_getElem?_getD, List.getElem?_eq_getElem (by omega)]
      exact hR _ (List.getElem_mem (by omega))
    have h2 := (hu.at k).1
    have h3 : atI [] k = 0 := by unfold atI; split <;> simp
    omega
  · rw [if_neg hk] at h
    omega
theorem rowS_len {R : List (List Int)} {n : Nat} {L0 : List Int} (hL : L0.length ≤ n) : (rowS R n L0).length ≤ n := by
  unfold rowS rowL
  exact maxI_len _ _ (fun r hr => by
    simp at hr
    rcases hr with rfl | rfl
    · exact hL
    · exact List.length_take_le _ _)
theorem rowS_u64 {R : List (List Int)} {n : Nat} {L0 : List Int} (hR : ∀ r ∈ R, U64 r) (hL : U64 L0) : U64 (rowS R n L0) := by
  unfold rowS rowL
  refine maxI_u64 (fun r hr => ?_)
  simp at hr
  rcases hr with rfl | rfl
  · exact hL
  · intro x hx
    have hx := List.mem_of_mem_take hx
    rw [leastS] at hx
    refine minI_u64 (fun r hr => ?_) x hx
    obtain ⟨i, _, rfl⟩ := List.mem_map.1 hr
    refine maxI_u64 (fun r hr => ?_)
    simp at hr
    rcases hr with rfl | rfl
    · intro x hx; cases hx
    · cases hh : R[i]? with
      | none => intro x hx; simp at hx
      | some r => exact hR r (List.mem_of_getElem? hh)
theorem newS (R : List (List Int)) (n : Nat) (L0 : List Int) : cutL (mK R n) [⟨2, n, L0, false⟩] = if sameB (rowS R n L0) L0 = false then [(2, rowS R n L0)] else [] := by
  show newRow (mK R n) ⟨2, n, L0, false⟩ ++ [] = _
  rw [List.append_nil]
  unfold newRow
  by_cases h : sameB (rowS R n L0) L0 = false
  · rw [if_pos h, if_pos ⟨rfl, h⟩]; rfl
  · rw [if_neg h, if_neg (fun hh => h hh.2)]
theorem safe_apply {F : FS} {n : Nat} {L0 : List Int} (h : One F n L0) (hn : n ≤ 4) {R : List (List Int)} (hR : ∀ r ∈ R, U64 r) : applyE F ⟨4, 0, 0, 0, 0, 0, [(2, rowS R n L0)]⟩ = 0 ∨ applyE F ⟨4, 0, 0, 0, 0, 0, [(2, rowS R n L0)]⟩ = 37 := by
  have hl := rowS_len (R := R) h.len
  have hu := rowS_u64 (n := n) hR h.u
  have hcut : cutI (rowS R n L0) = rowS R n L0 := by unfold rowS rowL; exact maxI_cut _
  have hb : rowsB [(2, rowS R n L0)] = true := rowsB_true (fun i hi => by
    have : i = 0 := by simp at hi; omega
    subst this
    unfold rowOkAt
    simp [hcut]
    omega)
  have hc : checkB ⟨4, 0, 0, 0, 0, 0, [(2, rowS R n L0)]⟩ = true := by
    unfold checkB checkA
    simp only [hb]
    simp [fitsB, hasW, hasS, hasG, hasP, hasR]
  have he : rowsE F [(2, rowS R n L0)] = 0 := by
    have h1 : rowE F (2, rowS R n L0) = 0 := by
      unfold rowE
      simp only
      rw [h.at2]
      simp only
      rw [if_neg (by decide), if_neg]
      rintro (hh | hh)
      · omega
      · rw [show leB L0 (rowS R n L0) = true from le_iff.2 (fun i => by rw [rowS_at]; omega)] at hh
        cases hh
    simp [rowsE, h1]
  unfold applyE
  rw [if_pos hc, if_pos ⟨rfl, rfl⟩]
  unfold doE
  simp only
  have hd : doE F ⟨4, 0, 0, 0, 0, 0, [(2, rowS R n L0)]⟩ = cutE F [(2, rowS R n L0)] := rfl
  unfold doE at hd
  simp only at hd
  rw [hd]
  unfold cutE
  rw [if_pos he]
  unfold sumE
  split
  · exact Or.inl rfl
  · exact Or.inr rfl
theorem safe_add {n : Nat} (h1 : 1 ≤ n) (h4 : n ≤ 4) : applyE emptyFS ⟨1, 0, 0, 2, (n : Int), 0, []⟩ = 0 ∧ applyF emptyFS ⟨1, 0, 0, 2, (n : Int), 0, []⟩ = sF1 n := by
  have hc : checkB ⟨1, 0, 0, 2, (n : Int), 0, []⟩ = true := by
    unfold checkB checkA
    simp [fitsB, hasW, hasS, hasG, hasP, hasR, rowsB]
    omega
  unfold applyE applyF
  rw [if_pos hc, if_pos ⟨rfl, rfl⟩, if_pos hc, if_pos ⟨rfl, rfl⟩]
  exact ⟨rfl, by unfold doF sF1; simp⟩
theorem safe_cut (n : Nat) (hn : n ≤ 4) {ls : List Int} (hl : ls.length ≤ n) (hu : U64 ls) : applyF (sF1 n) ⟨4, 0, 0, 0, 0, 0, [(2, cutI ls)]⟩ = sF2 n ls := by
  have hcl := cutI_len ls
  have hb : rowsB [(2, cutI ls)] = true := rowsB_true (fun i hi => by
    have : i = 0 := by simp at hi; omega
    subst this
    unfold rowOkAt
    simp [cutI_two]
    omega)
  have hc : checkB ⟨4, 0, 0, 0, 0, 0, [(2, cutI ls)]⟩ = true := by
    unfold checkB checkA
    simp only [hb]
    simp [fitsB, hasW, hasS, hasG, hasP, hasR]
  unfold applyF
  rw [if_pos hc, if_pos ⟨rfl, rfl⟩]
  rfl
end Go.Proofs.Ytabanackdjlcmaa

namespace Go.Proofs.Ytabanackdjlcmaa
open Go.ChangeShapes Go.WideShapes Go.ChangeAt Go.RowKit Go.Maps
set_option maxRecDepth 100000

def obGt (q : Value) (D : Nat → Prop) (N : Nat) (m : Rep) : Ob := ⟨D, fun w => GatO q D w N m⟩
theorem obGt_good (q : Value) (D : Nat → Prop) (N : Nat) (m : Rep) : (obGt q D N m).Good :=
  ⟨fun {S w w'} h hk hs => GatO.keep h hk hs, fun {w} h k hk => GatO.lt h k hk⟩
/-- Reports beside a state. -/
def GF (W : World) (q p : Value) (w : World) (N M : Nat) (m : Rep) (F : FS) : Prop := ∃ Dg D, Sep W.heap.size w [obGt q Dg N m, obFd p D M F] ∧ Below W.heap.size W w
section
variable {W w w' : World} {q p : Value} {N M : Nat} {m : Rep} {F : FS}
theorem GF.below (h : GF W q p w N M m F) : Below W.heap.size W w := by obtain ⟨_, _, _, hb⟩ := h; exact hb
theorem GF.step (h : GF W q p w N M m F) (hb : Below w.heap.size w w') : GF W q p w' N M m F := by
  obtain ⟨D, E, h1, h2⟩ := h
  exact ⟨D, E, h1.step hb, h2.trans (hb.mono h2.size)⟩
theorem gf_start (h : FoldW W p w M F) (hb : Below w.heap.size w w') {D : Nat → Prop} (hg : GatO q D w' N m) (hD : ∀ k, D k → w.heap.size ≤ k) : GF W q p w' N M m F := by
  obtain ⟨E, h1, h2, h3⟩ := h
  have hs : Sep W.heap.size w [obFd p E M F] := ⟨by intro o ho; simp at ho; subst ho; exact obFd_good .., by intro o ho; simp at ho; subst ho; exact h1, by intro o ho k hk; simp at ho; subst ho; exact h2 k hk, List.pairwise_singleton _ _, h3.size⟩
  exact ⟨D, E, hs.new hb (obGt_good ..) hg hD, h3.trans (hb.mono h3.size)⟩
theorem GF.more (h : GF W q p w N M m F) {M' : Nat} (hM : M ≤ M') : GF W q p w N M' m F := by
  obtain ⟨D, E, h1, h2⟩ := h
  have h0 : FoldO p E w M F := h1.get 1 rfl
  exact ⟨D, E, h1.set 1 rfl (Keep.refl _ _) (obFd_good ..) (by obtain ⟨b0, bs, bt, n, lv, g1, g2, g3⟩ := h0; exact ⟨b0, bs, bt, n, lv, g1, g2, by omega⟩) (fun k hk => Or.inl hk), h2⟩
theorem GF.fold (h : GF W q p w N M m F) : FoldW W p w M F := by
  obtain ⟨D, E, h1, h2⟩ := h
  exact ⟨E, h1.get 1 rfl, fun k hk => h1.base (obFd p E M F) (by simp) k hk, h2⟩
theorem GF.gat (h : GF W q p w N M m F) : ∃ D, GatO q D w N m := by
  obtain ⟨D, E, h1, h2⟩ := h
  exact ⟨D, h1.get 0 rfl⟩
theorem GF.report (h : GF W q p w N M m F) {v : Value} {s r : Int} {xs : List Int} (hv : SlR w v (u64s xs)) (lx : xs.length ≤ 4) (hs : 0 ≤ s ∧ s < 8) (hr : 0 ≤ r ∧ r < 4) (hn : N < 1000000) :
    Calls Try.prog 15 #[q, .int .i64 s, .int .i64 r, v] w fun e w' => e = .returned (.int .i64 0) ∧ GF W q p w' (N + 1) M (repG m s r xs) F := by
  obtain ⟨D, E, h1, h2⟩ := h
  have h0 : GatO q D w N m := h1.get 0 rfl
  refine (h0.report hv lx hs hr hn).mono ?_
  rintro e w' ⟨rfl, D', g1, g2, g3⟩
  exact ⟨rfl, D', E, h1.head g3 (obGt_good ..) g1 g2, h2.trans (g3.below h2.size (fun k hk => h1.base (obGt q D N m) (by simp) k hk))⟩
theorem GF.apply (h : GF W q p w N M m F) {c : Cm} {v : Value} (hv : RowsD (fun k => k < w.heap.size) w' v c.rows) (hb : Below w.heap.size w w') (hl : c.rows.length ≤ 1000000) (hc : CmOk c) (hFl : F.l.length ≤ 1000000000) (hM : M ≤ 900000) :
    Calls Try.prog 25 #[p, cmV c v] w' fun e w'' => e = .returned (.int .i64 (applyE F c)) ∧ Below W.heap.size W w'' := by
  obtain ⟨D, E, h1, h2⟩ := h
  have h0 : FoldO p E w M F := h1.get 1 rfl
  have hE : ∀ k, E k → k < w.heap.size := fun k hk => h0.lt k hk
  have h0' : FoldO p E w' M F := h0.step hb
  refine (h0'.apply (v := v) (c := c) (hv.sub (fun k hk => hE k hk)) hl hc hFl hM).mono ?_
  rintro e w'' ⟨rfl, D', hf, hm⟩
  have h2' := h2.trans (hb.mono h2.size)
  exact ⟨rfl, h2'.trans (hm.keep.below h2'.size (fun k hk => h1.base (obFd p E M F) (by simp) k hk))⟩
end
theorem RowsD.sub2 {B : Nat} {w w' : World} {v : Value} {rs : Rw} (h : RowsD (fun q => q < B) w v rs) (hb : Below w.heap.size w w') (_ : B ≤ w.heap.size) : RowsD (fun q => q < B) w' v rs := h.below hb
theorem RowsR.far {W : World} {v : Value} {L : List (List Int)} (h : RowsR W v L) : ∃ ao c, v = .slice ao L.length c ∧ L.length ≤ c ∧ c ≤ 9223372036854775807 ∧ ∀ (i : Nat) r, L[i]? = some r → ∃ a so sc, ao = some a ∧ r.length ≤ sc ∧ sc ≤ 9223372036854775807 ∧ ∀ w, Below W.heap.size W w → w.cell? (a.add i) = some (.slice so r.length sc) ∧ SlR w (.slice so r.length sc) (u64s r) := by
  obtain ⟨ao, c, rfl, h1, h2, hx⟩ := h
  unfold maxLen at h2
  refine ⟨ao, c, rfl, h1, by omega, fun i r hi => ?_⟩
  obtain ⟨a, u, rfl, hc, hs⟩ := hx i r hi
  obtain ⟨so, sc, e, h3, h4⟩ := hs.form
  simp only [List.length_map] at e h3
  subst e
  exact ⟨a, so, sc, rfl, h3, h4, fun w hb => ⟨by rw [hb.cell (World.block_lt_of_cell? W _ hc)]; exact hc, hs.below hb (Nat.le_refl _)⟩⟩

set_option maxHeartbeats 8000000 in
theorem gatherSafe_walk {W : World} {sg : Int} {v1 v2 : Value} {R : List (List Int)} {ls : List Int} (ws : (Lit.int .u8 sg).wf = true) (h1 : RowsR W v1 R) (u1 : ∀ r ∈ R, U64 r) (h2 : SlR W v2 (u64s ls)) (u2 : ∀ x ∈ ls, (Lit.int .u64 x).wf = true) :
    Calls Try.prog 9 #[.int .u8 sg, v1, v2] W fun e W' => e = .returned (.bool true) ∧ Below W.heap.size W W' := by
  have hs0 : 0 ≤ sg ∧ sg ≤ 255 := by simpa [Lit.wf, IntKind.min, IntKind.max, IntKind.signed, IntKind.bits] using ws
  have htm : sg.tmod 4 = sg % 4 := by rw [Int.tmod_eq_emod_of_nonneg hs0.1]
  obtain ⟨n, hn⟩ : ∃ n : Nat, sg % 4 + 1 = (n : Int) := ⟨(sg % 4 + 1).toNat, by omega⟩
  have hn1 : 1 ≤ n := by omega
  have hn4 : n ≤ 4 := by omega
  have HU2 := Lib.hid (u64_of_wf u2)
  have HU1 := Lib.hid u1
  obtain ⟨bo, bc, rfl, hbl, hbm⟩ := h2.form
  obtain ⟨ro, rc, rfl, hrl, hrm, hfar⟩ := h1.far
  simp only [List.length_map] at hbl hbm h2 ⊢
  have H2 := Lib.hid h2
  have HFar := Lib.hid hfar
  clear h1 h2 u1 u2 ws hfar hs0
  have hwn : IntKind.u8.wrap (sg % 4) = sg % 4 := IntWalk.u8_in _ (by omega)
  have hwi : IntKind.i64.wrap (sg % 4) = sg % 4 := IntWalk.i64_in _ (by omega)
  have hwj : IntKind.i64.wrap (sg % 4 + 1) = (n : Int) := by rw [IntWalk.i64_in _ (by omega)]; exact hn
  go_enter Try.func9, Try.ntmps9
  go_wp2_with fail
  refine (awake_any W).mono ?_
  rintro e w1 ⟨rfl, hb1⟩
  have HB1 := Lib.hid hb1
  clear hb1
  by_cases c1 : R.length < n
  · have d1 : ((R.length : Int) < (n : Int)) := by omega
    go_wp2_with fail
    go_ret
    exact ⟨rfl, HB1.out⟩
  · have d1 : decide ((R.length : Int) < (n : Int)) = false := decide_eq_false (by omega)
    by_cases c2 : 4 < R.length
    · have d2 : (4 : Int) < (R.length : Int) := by omega
      go_wp2_with fail
      go_ret
      exact ⟨rfl, HB1.out⟩
    · have d2 : decide ((4 : Int) < (R.length : Int)) = false := decide_eq_false (by omega)
      by_cases c3 : n < ls.length
      · have d3 : (n : Int) < (ls.length : Int) := by omega
        go_wp2_with fail
        go_ret
        exact ⟨rfl, HB1.out⟩
      · have d3 : decide ((n : Int) < (ls.length : Int)) = false := decide_eq_false (by omega)
        have hRn : n ≤ R.length := by omega
        have hls : ls.length ≤ n := by omega
        clear c1 c2 c3
        go_wp2_with fail
        refine (fnew_w W w1 HB1.out).mono ?_
        rintro e w2 ⟨b0, rfl, hf2⟩
        have HF2 := Lib.hid hf2
        clear hf2
        have e1 : applyE emptyFS ⟨1, 0, 0, 2, (n : Int), 0, []⟩ = 0 ∧ applyF emptyFS ⟨1, 0, 0, 2, (n : Int), 0, []⟩ = sF1 n := safe_add hn1 hn4
        have HE1 := Lib.hid e1.2
        have HE0 := Lib.hid e1.1
        clear e1
        go_wp2_with fail
        refine (HF2.out.apply (Below.refl _ _) (c := ⟨1, 0, 0, 2, (n : Int), 0, []⟩) (v := .slice none 0 0) (RowsD.nil _ _) (by simp) ⟨⟨by simp, by simp⟩, ⟨by simp, by simp⟩, ⟨by simp, by simp⟩, by simp⟩ (by simp [emptyFS]) (by omega)).mono ?_
        rintro e w3 ⟨rfl, hf3⟩
        rw [HE1.out] at hf3
        rw [HE0.out]
        have HF3 := Lib.hid hf3
        clear hf3 HF2 HE0 HE1
        go_wp2_with fail
        refine (cut_any (H2.out.below HF3.out.below (Nat.le_refl _)) (by omega)).mono ?_
        rintro e w4 ⟨cv, rfl, hown4, hb4⟩
        simp only [List.length_map] at hown4
        obtain ⟨co, cc, rfl, hcc1, hcc2⟩ := own_form hown4
        have hcl := cutI_len ls
        have HRD : Hid (RowsD (fun k => k < w3.heap.size) (w4.alloc (.cells #[.int .i64 2, .slice co (cutI ls).length cc] 37)) (.slice (some ⟨w4.heap.size, 0, none⟩) 1 1) [(2, cutI ls)]) := Lib.hid (RowsD.one (t := 37) (heap_alloc_new w4 _) ((SlR.of_own hown4).below ((Below.refl w4.heap.size w4).alloc (Nat.le_refl _) _) (Nat.le_refl _)) (fun hn => by have := hb4.size; omega) (fun k hk hn => by have := (hown4.lt k hk).1; omega))
        have HB4 := Lib.hid (hb4.alloc hb4.size (.cells #[.int .i64 2, .slice co (cutI ls).length cc] 37))
        obtain ⟨L0, hone⟩ := one_two n hn4 hls HU2.out
        have HOne := Lib.hid hone
        have HE2 : Hid (applyF (sF1 n) ⟨4, 0, 0, 0, 0, 0, [(2, cutI ls)]⟩ = sF2 n ls) := Lib.hid (safe_cut n hn4 hls HU2.out)
        clear hown4 hb4 hone
        go_wp2_with fail
        refine (HF3.out.apply HB4.out (c := ⟨4, 0, 0, 0, 0, 0, [(2, cutI ls)]⟩) (v := .slice (some ⟨w4.heap.size, 0, none⟩) 1 1) HRD.out (by simp) ⟨⟨by simp, by simp⟩, ⟨by simp, by simp⟩, ⟨by simp, by simp⟩, by simpa using cutI_u64 HU2.out⟩ (by simp [sF1, addR, emptyFS, putS]) (by omega)).mono ?_
        rintro e w5 ⟨rfl, hf5⟩
        rw [HE2.out] at hf5
        have HF5 := Lib.hid hf5
        clear hf5 HF3 HRD HB4 HE2
        generalize sF2 n ls = F at *
        go_wp2_with fail
        refine (gnew_o w5).mono ?_
        rintro e w6 ⟨q, Dg, rfl, hg6, hd6, hb6⟩
        obtain ⟨g0, rfl⟩ := hg6.ptr
        have HG6 := Lib.hid (gf_start HF5.out hb6 hg6 hd6)
        clear hg6 hd6 hb6 HF5
        go_wp2_with fail
        go_loopw [11] (fun i wr => ∃ k : Nat, k ≤ n ∧ i = .int .i64 k ∧ GF W (.pointer (some ⟨g0, 0, none⟩)) (.pointer (some ⟨b0, 0, none⟩)) wr k 1000 (mK R k) F) (fun i _ => n - (intOf i).toNat)
        case atStart => exact ⟨0, by omega, rfl, HG6.out.more (by omega)⟩
        case round =>
          obtain ⟨k, hk, rfl, hG⟩ := hrel
          have HG := Lib.hid hG
          clear hG HG6
          by_cases hlt : k < n
          · have hx := List.getElem?_eq_getElem (show k < R.length by omega)
            obtain ⟨a, so, sc, rfl, hso1, hso2, hfw⟩ := HFar.out k _ hx
            have HGet : Hid (R.getD k [] = R[k]) := Lib.hid (by rw [List.getD_eq_getElem?_getD, hx]; rfl)
            obtain ⟨f0, f1⟩ := hfw _ HG.out.below
            have HS1 := Lib.hid f1
            have hki : (k : Int) < (n : Int) := by omega
            have hkr : (k : Int) < (R.length : Int) := by omega
            generalize R[k] = r at *
            clear hx hfw f1
            by_cases c4 : 4 < r.length
            · have d4 : (4 : Int) < (r.length : Int) := by omega
              go_wp2_with fail
              go_ret
              exact ⟨rfl, HG.out.below⟩
            · have d4 : decide ((4 : Int) < (r.length : Int)) = false := decide_eq_false (by omega)
              go_wp2_with fail
              refine (HG.out.report (s := 2) (r := (k : Int)) HS1.out (by omega) ⟨by decide, by decide⟩ ⟨by omega, by omega⟩ (by omega)).mono ?_
              rintro e w7 ⟨rfl, h7⟩
              have H7 := Lib.hid h7
              clear h7
              go_wp2_with fail
              go_roundw
              case rel => exact ⟨k + 1, by omega, by go_num, by show GF _ _ _ _ _ _ (repG (mK R k) 2 k (R.getD k [])) _; rw [HGet.out]; exact H7.out⟩
              case measure => simp [intOf]; omega
          · have hkn : k = n := by omega
            subst hkn
            have hsh := HG.out.fold.shards (by omega)
            rw [HOne.out.shL] at hsh
            have HSh := Lib.hid hsh
            clear hsh hlt hk
            go_wp2_with fail
            refine HSh.out.mono ?_
            rintro e w7 ⟨ho7, hc7, vs7, rfl, hsep7, hb7⟩
            have HSn : Hid (ShL w7 (.slice ho7 1 hc7) [⟨2, k, L0, false⟩]) := Lib.hid (ShL.of_own ((hsep7.get 0 rfl : (obShs (.slice ho7 1 hc7) 35 vs7 [⟨2, k, L0, false⟩]).inv w7)).1 (hsep7.get 0 rfl : (obShs (.slice ho7 1 hc7) 35 vs7 [⟨2, k, L0, false⟩]).inv w7).2.1)
            have hz7 : 1 ≤ hc7 ∧ hc7 ≤ 9223372036854775807 := by
              obtain ⟨_, _, hh, h1, h2, _⟩ := HSn.out
              cases hh
              exact ⟨h1, h2⟩
            obtain ⟨hz71, hz72⟩ := hz7
            have H7 := Lib.hid (HG.out.step hb7)
            clear hsep7 hb7 HG HSh
            simp only [List.length_cons, List.length_nil, Nat.zero_add]
            obtain ⟨Dg7, hg7⟩ := H7.out.gat
            have hL0 := HOne.out.len
            have hcut := hg7.cutD HSn.out (fun s hs => by simp at hs; subst hs; exact ⟨⟨show (0 : Int) ≤ 2 by decide, show (2 : Int) ≤ 9223372036854775807 by decide⟩, hn1, hn4, show L0.length ≤ 1048576 by omega⟩) (by simp)
            rw [newS] at hcut
            clear hg7
            by_cases hsame : sameB (rowS R k L0) L0 = false
            · rw [if_pos hsame] at hcut
              simp only [List.length_cons, List.length_nil, Nat.zero_add] at hcut
              have HCut := Lib.hid hcut
              have HNew := Lib.hid (fun j h => rowS_new (k := j) HU1.out hRn HOne.out.u h)
              have HAp := Lib.hid (safe_apply HOne.out hn4 HU1.out)
              have HUr := Lib.hid (rowS_u64 (n := k) HU1.out HOne.out.u)
              have hFl := HOne.out.l
              have HFl := Lib.hid hFl
              clear hcut hsame hFl
              generalize rowS R k L0 = r at *
              go_wp2_with fail
              refine HCut.out.mono ?_
              rintro e w8 ⟨rv, rfl, hr8, hb8, hd8⟩
              obtain ⟨ro8, rc8, rfl, hrc1, hrc2, _⟩ := id hr8
              simp only [List.length_cons, List.length_nil, Nat.zero_add] at hrc1 ⊢
              have HR8 := Lib.hid hr8
              have HB8 := Lib.hid hb8
              have HD8 := Lib.hid hd8
              clear hr8 hb8 hd8 HCut
              go_wp2_with fail
              have hA9 := (Below.refl w8.heap.size w8).alloc (Nat.le_refl _) (.cells #[.int .i64 4, .int .u64 0, .int .u64 0, .int .i64 0, .int .i64 0, .int .u64 0, .slice ro8 1 rc8] 46)
              have k9 := heap_alloc_new w8 (.cells #[.int .i64 4, .int .u64 0, .int .u64 0, .int .i64 0, .int .i64 0, .int .u64 0, .slice ro8 1 rc8] 46)
              generalize w8.alloc (.cells #[.int .i64 4, .int .u64 0, .int .u64 0, .int .i64 0, .int .i64 0, .int .u64 0, .slice ro8 1 rc8] 46) = w9 at *
              have HB79 := Lib.hid (HB8.out.trans (hA9.mono HB8.out.size))
              have HRD : Hid (RowsD (fun q => q < w7.heap.size) w9 (.slice ro8 1 rc8) [(2, r)]) := Lib.hid (fun w' hk => HD8.out w' ((Below.keep0 _ hA9).trans hk))
              obtain ⟨ad, so, sc, hro, q0, q1, hq, hqs1, hqs2⟩ := (RowsL.below hA9 (Nat.le_refl _) HR8.out).at 0 _ rfl
              subst hro
              obtain ⟨ad2, so2, sc2, hro2, p0, p1, p2, p3, hp, hps1, hps2⟩ := (ShL.below HB79.out (Nat.le_refl _) HSn.out).at 0 _ rfl
              subst hro2
              simp only [Nat.zero_mul] at q0 q1 hqs1 hqs2 p0 p1 p2 p3 hps1 hps2
              have q1' : w9.cell? ⟨ad.block, ad.off + 1, none⟩ = some (.slice so r.length sc) := by simpa [Addr.add] using q1
              have p2' : w9.cell? ⟨ad2.block, ad2.off + 2, none⟩ = some (.slice so2 L0.length sc2) := by simpa [Addr.add] using p2
              clear q0 q1 p0 p1 p2 p3
              have m0 : w9.cell? ⟨w8.heap.size, 0, none⟩ = some (.int .i64 4) := World.news_of_block k9 0 _ rfl
              have m1 : w9.cell? ⟨w8.heap.size, 1, none⟩ = some (.int .u64 0) := World.news_of_block k9 1 _ rfl
              have m2 : w9.cell? ⟨w8.heap.size, 2, none⟩ = some (.int .u64 0) := World.news_of_block k9 2 _ rfl
              have m3 : w9.cell? ⟨w8.heap.size, 3, none⟩ = some (.int .i64 0) := World.news_of_block k9 3 _ rfl
              have m4 : w9.cell? ⟨w8.heap.size, 4, none⟩ = some (.int .i64 0) := World.news_of_block k9 4 _ rfl
              have m5 : w9.cell? ⟨w8.heap.size, 5, none⟩ = some (.int .u64 0) := World.news_of_block k9 5 _ rfl
              have m6 : w9.cell? ⟨w8.heap.size, 6, none⟩ = some (.slice (some ad) 1 rc8) := World.news_of_block k9 6 _ rfl
              have HX9 : Hid (∀ wr : World, Below w9.heap.size w9 wr → wr.cell? ⟨w8.heap.size, 0, none⟩ = some (.int .i64 4) ∧ wr.cell? ⟨w8.heap.size, 1, none⟩ = some (.int .u64 0) ∧ wr.cell? ⟨w8.heap.size, 2, none⟩ = some (.int .u64 0) ∧ wr.cell? ⟨w8.heap.size, 3, none⟩ = some (.int .i64 0) ∧ wr.cell? ⟨w8.heap.size, 4, none⟩ = some (.int .i64 0) ∧ wr.cell? ⟨w8.heap.size, 5, none⟩ = some (.int .u64 0) ∧ wr.cell? ⟨w8.heap.size, 6, none⟩ = some (.slice (some ad) 1 rc8) ∧
                wr.cell? ⟨ad.block, ad.off + 1, none⟩ = some (.slice so r.length sc) ∧ wr.cell? ⟨ad2.block, ad2.off + 2, none⟩ = some (.slice so2 L0.length sc2) ∧ SlR wr (.slice so r.length sc) (u64s r) ∧ SlR wr (.slice so2 L0.length sc2) (u64s L0)) := Lib.hid (fun wr hb => by
                have go : ∀ {p : Addr} {u : Value}, w9.cell? p = some u → wr.cell? p = some u := fun {p u} hc => by rw [hb.cell (World.block_lt_of_cell? w9 _ hc)]; exact hc
                exact ⟨go m0, go m1, go m2, go m3, go m4, go m5, go m6, go q1', go p2', hq.below hb (Nat.le_refl _), hp.below hb (Nat.le_refl _)⟩)
              clear hq hp k9 hA9 HR8 HD8 m0 m1 m2 m3 m4 m5 m6 q1' p2'
              go_loopw [15] (fun i wr => ∃ j : Nat, j ≤ 4 ∧ i = .int .i64 j ∧ Below w9.heap.size w9 wr) (fun i _ => 4 - (intOf i).toNat)
              case atStart => exact ⟨0, by omega, rfl, Below.refl _ _⟩
              case round =>
                obtain ⟨j, hj, rfl, hbj⟩ := hrel
                have HBj := Lib.hid hbj
                obtain ⟨m0, m1, m2, m3, m4, m5, m6, q1', p2', hqq, hpp⟩ := HX9.out _ hbj
                have HQ := Lib.hid hqq
                have HP := Lib.hid hpp
                clear hbj hqq hpp
                by_cases hlt : j < 4
                · have hj4 : (j : Int) < 4 := by omega
                  go_wp2_with fail
                  refine (at_any (j : Int) HQ.out).mono ?_
                  rintro e w10 ⟨rfl, rfl⟩
                  go_wp2_with fail
                  refine (at_any (j : Int) HP.out).mono ?_
                  rintro e w10 ⟨rfl, rfl⟩
                  have hnew := HNew.out j
                  by_cases hx : atI r j = atI L0 j
                  · have hxd : (atI r j == atI L0 j) = true := by simpa using hx
                    have HX := Lib.hid hx
                    clear hx hnew
                    generalize atI r j = x at *
                    generalize atI L0 j = y at *
                    go_wp2_with fail
                    go_roundw
                    case rel => (repeat apply Exists.intro); refine And.intro ?_ rfl; exact ⟨j + 1, by omega, by go_num, HBj.out⟩
                    case measure => simp [intOf]; omega
                  · have hxd : (atI r j == atI L0 j) = false := by simpa using hx
                    obtain ⟨hjk, hall⟩ := hnew hx
                    have HAll := Lib.hid hall
                    have hjd : decide ((k : Int) ≤ (j : Int)) = false := decide_eq_false (by omega)
                    clear hx hnew hall
                    generalize atI r j = x at *
                    generalize atI L0 j = y at *
                    go_wp2_with fail
                    go_loopw [17] (fun i wr => ∃ q : Nat, q ≤ k ∧ i = .int .i64 q ∧ Below w9.heap.size w9 wr) (fun i _ => k - (intOf i).toNat)
                    case atStart => exact ⟨0, by omega, rfl, HBj.out⟩
                    case round =>
                      obtain ⟨q, hq, rfl, hbq⟩ := hrel
                      have HBq := Lib.hid hbq
                      clear hbq
                      by_cases hlq : q < k
                      · have hxq := List.getElem?_eq_getElem (show q < R.length by omega)
                        obtain ⟨a5, so5, sc5, rfl, hso1, hso2, hfw⟩ := HFar.out q _ hxq
                        have hle := HAll.out q hlq
                        rw [List.getD_eq_getElem?_getD, hxq] at hle
                        simp only [Option.getD_some] at hle
                        obtain ⟨f0, f1⟩ := hfw _ (H7.out.below.trans ((HB79.out.trans (HBq.out.mono HB79.out.size)).mono H7.out.below.size))
                        have HS1 := Lib.hid f1
                        have hqi : (q : Int) < (k : Int) := by omega
                        have hqr : (q : Int) < (R.length : Int) := by omega
                        have hlt' : decide (atI R[q] j < x) = false := decide_eq_false (by omega)
                        generalize R[q] = rr at *
                        clear hxq hfw f1 hle
                        go_wp2_with fail
                        refine (at_any (j : Int) HS1.out).mono ?_
                        rintro e w10 ⟨rfl, rfl⟩
                        generalize atI rr j = z at *
                        go_wp2_with fail
                        go_roundw
                        case rel => exact ⟨q + 1, by omega, by go_num, HBq.out⟩
                        case measure => simp [intOf]; omega
                      · have hqk : q = k := by omega
                        subst hqk
                        go_wp2_with fail
                        go_roundw
                        case rel => (repeat apply Exists.intro); refine And.intro ?_ rfl; exact ⟨j + 1, by omega, by go_num, HBq.out⟩
                        case measure => simp [intOf]; omega
                · have hj4 : j = 4 := by omega
                  subst hj4
                  go_wp2_with fail
                  refine (H7.out.apply (c := ⟨4, 0, 0, 0, 0, 0, [(2, r)]⟩) (v := .slice (some ad) 1 rc8) (HRD.out.sub2 HBj.out HB79.out.size) (HB79.out.trans (HBj.out.mono HB79.out.size)) (by simp) ⟨⟨by simp, by simp⟩, ⟨by simp, by simp⟩, ⟨by simp, by simp⟩, by simpa using HUr.out⟩ (by have := HFl.out; omega) (by omega)).mono ?_
                  rintro e w10 ⟨rfl, hb10⟩
                  have HB10 := Lib.hid hb10
                  rcases HAp.out with h | h
                  all_goals
                    rw [h]
                    clear h
                    go_wp2_with fail
                    go_ret
                    exact ⟨rfl, HB10.out⟩
            · rw [if_neg hsame] at hcut
              simp only [List.length_nil] at hcut
              have HCut := Lib.hid hcut
              clear hcut hsame
              go_wp2_with fail
              refine HCut.out.mono ?_
              rintro e w8 ⟨rv, rfl, hr8, hb8, hd8⟩
              obtain ⟨ro8, rc8, rfl, hrc1, hrc2, _⟩ := id hr8
              simp only [List.length_nil] at hrc1 ⊢
              have HB8 := Lib.hid (H7.out.below.trans (hb8.mono H7.out.below.size))
              clear hr8 hb8 hd8 HCut
              go_wp2_with fail
              go_ret
              exact ⟨rfl, HB8.out.alloc HB8.out.size _⟩
theorem gatherSafe_holds : Rows.GatherSafeSaid :=
  OpenClaim.holds_of_wide 9 Try.f9 rfl rfl rfl rfl rfl rfl rfl ⟨rfl, rfl, rfl, rfl, rfl⟩ rfl rfl rfl rfl rfl (by kernel_rfl) Try.func9 (by kernel_rfl)
    (of_decide_eq_true (by kernel_rfl)) (by unfold Func.isWrapper; rw [if_neg (by decide +kernel)]; exact ⟨rfl, rfl⟩)
    (fun os started H enc _ => law_frame (C := Try.checked) (fn := Try.f9) (s := Rows.gatherSafeSpec) (tb := 4) Try.own started (by kernel_rfl) Try.func9 Try.laidOut rfl (by kernel_rfl) Try.underlying4 (by kernel_rfl)
      (fun ds hd => by match ds, hd with | [_, _, _], _ => exact ⟨rfl, rfl, rfl⟩)
      (ChangeSpec.witness6 (enc := enc) (C := Try.checked) false ⟨#[], #[.int .u8 0, .slice none 0 0, .slice none 0 0], []⟩ 8 (by kernel_rfl) (by kernel_rfl) (by kernel_rfl) (by kernel_rfl))
      (fun W base args ds p hval0 hA0 _ => by
        have hval : ∀ (j : Nat) t v, Try.f9.params[j]? = some t → args[j]? = some v → Value.okWide Try.prog W .any base t v := hval0
        have hA : DataW.TrodAll enc Try.prog W 0 (fun _ => true) true Try.f9.params.toList args.toList ds p := hA0
        rw [Try.params9] at hA hval
        obtain ⟨v0, v1, v2, d0, d1, d2, p0, p1, p2, rfl, rfl, rfl, h0, h1, h2⟩ := trodAll_three hA
        obtain ⟨x0, rfl, rfl, rfl, wx0⟩ := open_int Try.underlying5 (hval 0 5 v0 rfl rfl) h0
        obtain ⟨x1, hx1, wx1⟩ := arg_rows Try.underlying22 Try.underlying27 Try.underlying39 (by kernel_rfl) (by kernel_rfl) (hval 1 22 v1 rfl rfl) h1
        obtain ⟨x2, hx2, wx2⟩ := arg_ints Try.underlying27 Try.underlying39 (by kernel_rfl) (hval 2 27 v2 rfl rfl) h2
        exact gatherSafe_walk wx0 hx1 wx1 hx2 wx2))

end Go.Proofs.Ytabanackdjlcmaa
