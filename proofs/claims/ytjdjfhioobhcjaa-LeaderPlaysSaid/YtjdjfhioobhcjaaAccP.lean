/-
  The document's acceptor, as rows; no program in sight.
-/
import Derived.Test.YtjdjfhioobhcjaaAcc8
namespace Go.Proofs.Ytjdjfhioobhcjaa

/-- The vote for a slot. -/
def look (L : List Vt) (a : Int) : Option Vt := L.find? (fun v => decide (v.slot = a))
/-- Votes by rising slots. -/
def Rise (L : List Vt) : Prop := L.Pairwise (fun a b => a.slot < b.slot)
structure RefA (A : AS) (L : List Vt) : Prop where
  rise : Rise L
  at_ : A.l = look L
theorem RefA.empty : RefA emptyAS [] := ⟨List.Pairwise.nil, rfl⟩
theorem look_slot {L : List Vt} {a : Int} {v : Vt} (h : look L a = some v) : v.slot = a ∧ v ∈ L := by
  unfold look at h
  have := List.find?_some h
  exact ⟨by simpa using this, List.mem_of_find?_eq_some h⟩
theorem look_cons (x : Vt) (r : List Vt) (a : Int) : look (x :: r) a = if x.slot = a then some x else look r a := by
  unfold look
  rw [List.find?_cons]
  by_cases e : x.slot = a <;> simp [e]
theorem look_mem {L : List Vt} (h : Rise L) {v : Vt} (hv : v ∈ L) : look L v.slot = some v := by
  induction L with
  | nil => cases hv
  | cons x r ih =>
    obtain ⟨h1, h2⟩ := List.pairwise_cons.1 h
    rw [look_cons]
    rcases List.mem_cons.1 hv with rfl | hv
    · rw [if_pos rfl]
    · have := h1 v hv
      rw [if_neg (by omega)]
      exact ih h2 hv
theorem look_some (L : List Vt) (a : Int) : (look L a).isSome = L.any (fun v => decide (v.slot = a)) := by
  unfold look
  rw [Bool.eq_iff_iff, List.find?_isSome]
  simp
theorem look_filter (L : List Vt) (q : Vt → Bool) (a : Int) : look (L.filter q) a = L.find? (fun v => q v && decide (v.slot = a)) := by
  unfold look; rw [List.find?_filter]; congr 1; funext y; simp
/-- A row of rising slots is told by what stands at each slot. -/
theorem RefA.votL {A : AS} {L : List Vt} (h : RefA A L) {ks : List Int} (hk : IsKeys A.l ks) (fr : Int) : votL A.l ks fr = L.filter (fun v => decide (fr ≤ v.slot)) := by
  have e : ks = L.map (·.slot) := by
    refine rise_unique hk.1 (by rw [List.pairwise_map]; exact h.rise) (fun x => ?_)
    rw [hk.2 x, h.at_, List.mem_map]
    constructor
    · intro hs
      obtain ⟨v, hv⟩ := Option.isSome_iff_exists.1 hs
      exact ⟨v, (look_slot hv).2, (look_slot hv).1⟩
    · rintro ⟨v, hv, rfl⟩
      rw [look_mem h.rise hv]; rfl
  subst e
  unfold Go.Proofs.Ytjdjfhioobhcjaa.votL
  rw [h.at_]
  have key : ∀ (R : List Vt), (∀ v ∈ R, look L v.slot = some v) → List.filterMap (look L) ((R.map (·.slot)).filter (fun x => decide (fr ≤ x))) = R.filter (fun v => decide (fr ≤ v.slot)) := by
    intro R
    induction R with
    | nil => intro _; rfl
    | cons x r ih =>
      intro hR
      have i := ih (fun v hv => hR v (List.mem_cons_of_mem _ hv))
      rw [List.map_cons, List.filter_cons, List.filter_cons]
      by_cases hf : fr ≤ x.slot
      · simp only [hf, decide_true, if_true]
        rw [List.filterMap_cons, hR x (by simp)]
        simp only
        rw [i]
      · simp only [hf, decide_false, Bool.false_eq_true, if_false]
        exact i
  exact key L (fun v hv => look_mem h.rise hv)
/-- One step of the loop that lays a vote in. -/
def insS (v : Vt) (s : Bool × List Vt) (x : Vt) : Bool × List Vt :=
  let s1 := if decide (v.slot ≤ x.slot) && !s.1 then (true, s.2 ++ [v]) else s
  if x.slot ≠ v.slot then (s1.1, s1.2 ++ [x]) else s1
def insK (v : Vt) (L : List Vt) (k : Nat) : Bool × List Vt := (L.take k).foldl (insS v) (false, [])
def insF (v : Vt) (L : List Vt) : List Vt := if (insK v L L.length).1 then (insK v L L.length).2 else (insK v L L.length).2 ++ [v]
theorem insK_zero (v : Vt) (L : List Vt) : insK v L 0 = (false, []) := rfl
theorem insK_succ {v : Vt} {L : List Vt} {k : Nat} {x : Vt} (h : L[k]? = some x) : insK v L (k + 1) = insS v (insK v L k) x := by
  obtain ⟨h1, h2⟩ := List.getElem?_eq_some_iff.1 h
  unfold insK
  rw [List.take_succ_eq_append_getElem h1, h2, List.foldl_append]
  rfl
theorem insS_len (v : Vt) (s : Bool × List Vt) (x : Vt) : (insS v s x).2.length ≤ s.2.length + 2 := by
  unfold insS
  simp only
  split <;> split <;> simp
theorem insK_len (v : Vt) (L : List Vt) (k : Nat) : (insK v L k).2.length ≤ 2 * k := by
  unfold insK
  have : ∀ (R : List Vt) (s : Bool × List Vt), (R.foldl (insS v) s).2.length ≤ s.2.length + 2 * R.length := by
    intro R
    induction R with
    | nil => intro s; simp
    | cons x r ih =>
      intro s
      have h1 := ih (insS v s x)
      have h2 := insS_len v s x
      simp only [List.foldl_cons, List.length_cons]
      omega
  have h := this (L.take k) (false, [])
  have h3 := List.length_take_le k L
  simp at h
  have := List.length_take_le k L
  simp at this
  omega
/-- The row with a vote laid in. -/
def insR (v : Vt) : List Vt → List Vt
  | [] => [v]
  | x :: r => if x.slot < v.slot then x :: insR v r else v :: (x :: r).filter (fun y => decide (y.slot ≠ v.slot))
theorem insS_true (v : Vt) (R : List Vt) : ∀ (pre : List Vt), R.foldl (insS v) (true, pre) = (true, pre ++ R.filter (fun y => decide (y.slot ≠ v.slot))) := by
  induction R with
  | nil => intro pre; simp
  | cons x r ih =>
    intro pre
    rw [List.foldl_cons, List.filter_cons]
    by_cases e : x.slot = v.slot
    · have : insS v (true, pre) x = (true, pre) := by unfold insS; simp [e]
      rw [this, ih]; simp [e]
    · have : insS v (true, pre) x = (true, pre ++ [x]) := by unfold insS; simp [e]
      rw [this, ih]; simp [e]
theorem insF_run (v : Vt) {R : List Vt} (h : Rise R) : ∀ (pre : List Vt), (fun s : Bool × List Vt => if s.1 then s.2 else s.2 ++ [v]) (R.foldl (insS v) (false, pre)) = pre ++ insR v R := by
  induction R with
  | nil => intro pre; rfl
  | cons x r ih =>
    intro pre
    obtain ⟨h1, h2⟩ := List.pairwise_cons.1 h
    rw [List.foldl_cons]
    unfold insR
    by_cases e : x.slot < v.slot
    · have hs : insS v (false, pre) x = (false, pre ++ [x]) := by
        unfold insS
        have : ¬ v.slot ≤ x.slot := by omega
        have : x.slot ≠ v.slot := by omega
        simp [*]
      rw [hs, if_pos e, ih h2]; simp
    · rw [if_neg e]
      have hle : v.slot ≤ x.slot := by omega
      by_cases e2 : x.slot = v.slot
      · have hs : insS v (false, pre) x = (true, pre ++ [v]) := by unfold insS; simp [e2]
        rw [hs, insS_true]
        simp [e2]
      · have hs : insS v (false, pre) x = (true, pre ++ [v] ++ [x]) := by unfold insS; simp [e2, hle]
        rw [hs, insS_true]
        simp [e2]
theorem insF_eq (v : Vt) {L : List Vt} (h : Rise L) : insF v L = insR v L := by
  have := insF_run v h []
  unfold insF insK
  rw [List.take_length]
  simpa using this
theorem insR_look (v : Vt) (L : List Vt) (a : Int) : look (insR v L) a = if a = v.slot then some v else look L a := by
  induction L with
  | nil =>
    unfold insR
    rw [look_cons]
    by_cases e : a = v.slot
    · rw [if_pos e.symm, if_pos e]
    · rw [if_neg (fun h => e h.symm), if_neg e]
  | cons x r ih =>
    unfold insR
    by_cases hx : x.slot < v.slot
    · rw [if_pos hx, look_cons, look_cons, ih]
      by_cases e : a = v.slot
      · rw [if_pos e, if_neg (by omega), if_pos e]
      · rw [if_neg e, if_neg e]
    · rw [if_neg hx, look_cons]
      by_cases e : a = v.slot
      · rw [if_pos e.symm, if_pos e]
      · rw [if_neg (fun h => e h.symm), if_neg e, look_filter]
        unfold look
        congr 1
        funext y
        by_cases ey : y.slot = a
        · simp [ey, e]
        · simp [ey]
theorem insR_mem (v : Vt) (L : List Vt) : ∀ x ∈ insR v L, x = v ∨ x ∈ L := by
  induction L with
  | nil => intro x hx; unfold insR at hx; simpa using hx
  | cons y r ih =>
    intro x hx
    unfold insR at hx
    split at hx
    · rcases List.mem_cons.1 hx with rfl | hx
      · exact Or.inr (by simp)
      · rcases ih x hx with e | e
        · exact Or.inl e
        · exact Or.inr (List.mem_cons_of_mem _ e)
    · rcases List.mem_cons.1 hx with rfl | hx
      · exact Or.inl rfl
      · exact Or.inr (List.mem_filter.1 hx).1
theorem insR_rise (v : Vt) {L : List Vt} (h : Rise L) : Rise (insR v L) := by
  induction L with
  | nil => exact List.pairwise_singleton _ _
  | cons x r ih =>
    obtain ⟨h1, h2⟩ := List.pairwise_cons.1 h
    unfold insR
    split
    · rename_i hx
      refine List.Pairwise.cons (fun y hy => ?_) (ih h2)
      rcases insR_mem v r y hy with rfl | hy
      · exact hx
      · exact h1 y hy
    · rename_i hx
      refine List.Pairwise.cons (fun y hy => ?_) (List.Pairwise.filter _ h)
      obtain ⟨hy1, hy2⟩ := List.mem_filter.1 hy
      have hy2 : y.slot ≠ v.slot := by simpa using hy2
      rcases List.mem_cons.1 hy1 with rfl | hy1
      · omega
      · have := h1 y hy1; omega
theorem insR_len (v : Vt) (L : List Vt) : (insR v L).length ≤ L.length + 1 := by
  induction L with
  | nil => exact Nat.le_refl _
  | cons x r ih =>
    unfold insR
    split
    · simp only [List.length_cons]; omega
    · have := List.length_filter_le (fun y : Vt => decide (y.slot ≠ v.slot)) (x :: r)
      simp only [List.length_cons] at *; omega
theorem RefA.put {A : AS} {L : List Vt} (h : RefA A L) (v : Vt) : RefA (putA A v) (insF v L) := by
  rw [insF_eq v h.rise]
  refine ⟨insR_rise v h.rise, ?_⟩
  unfold putA
  simp only
  funext a
  rw [insR_look, h.at_]
theorem RefA.forg {A : AS} {L : List Vt} (h : RefA A L) {slot : Int} (hs : A.low < slot) : RefA (forgA A slot) (L.filter (fun v => decide (slot ≤ v.slot))) := by
  refine ⟨List.Pairwise.filter _ h.rise, ?_⟩
  unfold forgA
  rw [if_neg (by omega)]
  simp only
  funext a
  rw [look_filter, h.at_]
  by_cases e : a < slot
  · rw [if_pos e]
    symm
    rw [List.find?_eq_none]
    intro x _
    simp
    intro h1 h2
    omega
  · rw [if_neg e]
    unfold look
    congr 1
    funext y
    by_cases ey : y.slot = a
    · simp [ey]; omega
    · simp [ey]
theorem RefA.same {A : AS} {L : List Vt} (h : RefA A L) (p lo : Int) : RefA ⟨p, lo, A.l⟩ L := ⟨h.rise, h.at_⟩
/-- A row that is filtered as far as one goes. -/
def filK (fr : Int) (L : List Vt) (k : Nat) : List Vt := (L.take k).filter (fun v => decide (fr ≤ v.slot))
theorem filK_zero (fr : Int) (L : List Vt) : filK fr L 0 = [] := rfl
theorem filK_all (fr : Int) (L : List Vt) : filK fr L L.length = L.filter (fun v => decide (fr ≤ v.slot)) := by unfold filK; rw [List.take_length]
theorem filK_succ {fr : Int} {L : List Vt} {k : Nat} {x : Vt} (h : L[k]? = some x) : filK fr L (k + 1) = if fr ≤ x.slot then filK fr L k ++ [x] else filK fr L k := by
  obtain ⟨h1, h2⟩ := List.getElem?_eq_some_iff.1 h
  unfold filK
  rw [List.take_succ_eq_append_getElem h1, h2, List.filter_append]
  by_cases e : fr ≤ x.slot
  · rw [if_pos e]; simp [e]
  · rw [if_neg e]; simp [e]
theorem filK_len (fr : Int) (L : List Vt) (k : Nat) : (filK fr L k).length ≤ k := by
  unfold filK
  have h1 := List.length_filter_le (fun v : Vt => decide (fr ≤ v.slot)) (L.take k)
  have h2 := List.length_take_le k L
  omega
/-- Is a slot among the first? -/
def anyK (a : Int) (L : List Vt) (k : Nat) : Bool := (L.take k).any (fun v => decide (v.slot = a))
theorem anyK_zero (a : Int) (L : List Vt) : anyK a L 0 = false := rfl
theorem anyK_all (a : Int) (L : List Vt) : anyK a L L.length = (look L a).isSome := by unfold anyK; rw [List.take_length, look_some]
theorem anyK_succ {a : Int} {L : List Vt} {k : Nat} {x : Vt} (h : L[k]? = some x) : anyK a L (k + 1) = (anyK a L k || decide (x.slot = a)) := by
  obtain ⟨h1, h2⟩ := List.getElem?_eq_some_iff.1 h
  unfold anyK
  rw [List.take_succ_eq_append_getElem h1, h2, List.any_append]
  simp
end Go.Proofs.Ytjdjfhioobhcjaa
