/-
  Package leader: plain laws for LeaderSlots.
-/
import Derived.Test.YtjdjfhioobhcjaaLeaX
import Derived.Test.YtjdjfhioobhcjaaAccL
namespace Go.Proofs.Ytjdjfhioobhcjaa
open Go.ChangeShapes Go.WideShapes Go.ChangeAt Go.RowKit Go.Maps
set_option maxRecDepth 100000

/-- The first numbers. -/
def ltK (i : Nat) : Nat → Bool := fun k => decide (k < i)
theorem ltK_zero : ltK 0 = fun _ => false := by funext k; unfold ltK; simp
theorem ltK_add (i : Nat) : addK (ltK i) i = ltK (i + 1) := by
  funext k; unfold addK ltK
  by_cases e : k = i
  · subst e; simp
  · rw [if_neg e]; rw [decide_eq_decide]; omega
theorem ltK_cnt {i : Nat} (h : i ≤ 32) : cnt 32 (ltK i) = i := by
  induction i with
  | zero => rw [ltK_zero]; decide
  | succ i ih => rw [← ltK_add, cnt_add _ (by omega) (by unfold ltK; simp), ih (by omega)]
/-- A leader as promises of the first acceptors come. -/
structure StA (n i : Nat) (N : Nat) (A : LS) : Prop where
  many : A.many = n
  ballot : A.ballot = 7
  first : A.first = 3
  kn : ∀ a, A.kn a = none
  op : ∀ a, A.op a = none
  small : N ≤ 4097 ∧ (A.stage = 1 → N = 0)
  at_ : (A.stage = 1 ∧ i ≤ n / 2 ∧ A.prom = ltK i) ∨ (A.stage = 2 ∧ n / 2 < i ∧ A.next = 3)
theorem StA.start (n : Nat) : StA n 0 0 (beginL (newLS n) 7 3) :=
  ⟨rfl, rfl, rfl, fun _ => rfl, fun _ => rfl, ⟨by omega, fun _ => rfl⟩, Or.inl ⟨rfl, by omega, by rw [ltK_zero]; rfl⟩⟩
theorem StA.end_ {n i N : Nat} {A : LS} (h : StA n i N A) : IsEnd (promV A i 0 []) 3 := by
  have hf : (promV A i 0 []).first = 3 := by show max A.first 0 = 3; rw [h.first]; decide
  refine ⟨⟨by rw [hf]; omega, by constructor <;> decide⟩, fun s hs _ => ?_, Or.inl hf.symm⟩
  have : (promV A i 0 []).kn s = none := h.kn s
  rw [this] at hs; cases hs
theorem StA.near {n i N : Nat} {A : LS} (h : StA n i N A) : ¬ farL (promV A i 0 []) := by
  rintro ⟨s, hs, _⟩
  have : (promV A i 0 []).kn s = none := h.kn s
  rw [this] at hs; cases hs
theorem StA.few {n i N : Nat} {A : LS} (h : StA n i N A) (hs : A.stage = 1) (hi : i < n) (hn : n ≤ 5) (hm : ¬ (promV A i 0 []).many / 2 < cnt 32 (promV A i 0 []).prom) : StA n (i + 1) N (promV A i 0 []) := by
  rcases h.at_ with ⟨_, h2, h3⟩ | ⟨h1, _⟩
  · have hp : (promV A i 0 []).prom = ltK (i + 1) := by show addK A.prom i = _; rw [h3, ltK_add]
    have hmn : (promV A i 0 []).many = n := h.many
    rw [hp, hmn, ltK_cnt (by omega)] at hm
    exact ⟨h.many, h.ballot, by show max A.first 0 = 3; rw [h.first]; decide, h.kn, h.op, h.small, Or.inl ⟨hs, by omega, hp⟩⟩
  · omega
theorem StA.leads {n i N : Nat} {A : LS} (h : StA n i N A) (hs : A.stage = 1) (hi : i < n) (hn : n ≤ 5) (hm : (promV A i 0 []).many / 2 < cnt 32 (promV A i 0 []).prom) : StA n (i + 1) (N + 4097) (leadL (promV A i 0 []) 3) := by
  have hN := h.small.2 hs
  rcases h.at_ with ⟨_, h2, h3⟩ | ⟨h1, _⟩
  · have hp : (promV A i 0 []).prom = ltK (i + 1) := by show addK A.prom i = _; rw [h3, ltK_add]
    have hmn : (promV A i 0 []).many = n := h.many
    rw [hp, hmn, ltK_cnt (by omega)] at hm
    refine ⟨h.many, h.ballot, by show max A.first 0 = 3; rw [h.first]; decide, h.kn, fun a => ?_, ⟨by omega, fun h => absurd h (by show (2 : Int) ≠ 1; decide)⟩, Or.inr ⟨rfl, by omega, rfl⟩⟩
    show leadP (promV A i 0 []) 3 a = none
    unfold leadP
    have hf : (promV A i 0 []).first = 3 := by show max A.first 0 = 3; rw [h.first]; decide
    rw [if_neg (by omega)]
    exact h.op a
  · omega
theorem StA.stays {n i N : Nat} {A : LS} (h : StA n i N A) (hs : A.stage = 2) : StA n (i + 1) N A := by
  rcases h.at_ with ⟨h1, _⟩ | ⟨_, h2, h3⟩
  · omega
  · exact ⟨h.many, h.ballot, h.first, h.kn, h.op, h.small, Or.inr ⟨hs, by omega, h3⟩⟩
/-- A leader as values are proposed, and voted for. -/
def opS (ys : List (List Int)) (L : Nat) (Dn : Nat → Bool) (G : Nat → Nat → Bool) : Int → Option (Vt × (Nat → Bool)) := fun a => if 3 ≤ a ∧ a < 3 + (L : Int) then (if Dn (a - 3).toNat then none else some (⟨a, 7, ys.getD (a - 3).toNat []⟩, G (a - 3).toNat)) else none
structure SvA (n : Nat) (ys : List (List Int)) (L : Nat) (Dn : Nat → Bool) (G : Nat → Nat → Bool) (N M : Nat) (A : LS) : Prop where
  many : A.many = n
  ballot : A.ballot = 7
  stage : A.stage = 2
  next : A.next = 3 + (L : Int)
  op : A.op = opS ys L Dn G
  small : N ≤ 4097 + M
  who : ∀ k j, G k j = true → j < n
theorem SvA.start {n N : Nat} {A : LS} (h : StA n n N A) (hn : 1 ≤ n) (ys : List (List Int)) : SvA n ys 0 (fun _ => false) (fun _ _ => false) N 0 A := by
  rcases h.at_ with ⟨_, h2, _⟩ | ⟨h1, h2, h3⟩
  · omega
  · refine ⟨h.many, h.ballot, h1, by rw [h3]; rfl, ?_, by have := h.small.1; omega, fun k j hg => by cases hg⟩
    funext a
    rw [h.op]; unfold opS; rw [if_neg (by omega)]
theorem SvA.proposed {n L N : Nat} {A : LS} {ys : List (List Int)} {r : List Int} (h : SvA n ys L (fun _ => false) (fun _ _ => false) N L A) (hr : ys[L]? = some r) : SvA n ys (L + 1) (fun _ => false) (fun _ _ => false) (N + 1) (L + 1) (nextL (opP A ⟨A.next, A.ballot, r⟩ (fun _ => false))) := by
  refine ⟨h.many, h.ballot, h.stage, by show A.next + 1 = _; rw [h.next]; omega, ?_, by have := h.small; omega, fun k j hg => by cases hg⟩
  funext a
  show (if a = A.next then some (⟨A.next, A.ballot, r⟩, fun _ => false) else A.op a) = _
  rw [h.next, h.ballot, h.op]
  unfold opS
  by_cases e : a = 3 + (L : Int)
  · subst e
    have e2 : (3 + (L : Int) - 3).toNat = L := by omega
    rw [if_pos rfl, if_pos (by omega), e2]
    simp [hr]
  · rw [if_neg e]
    by_cases hin : 3 ≤ a ∧ a < 3 + (L : Int)
    · have h2 : 3 ≤ a ∧ a < 3 + ((L + 1 : Nat) : Int) := by omega
      rw [if_pos hin, if_pos h2]
    · have h2 : ¬ (3 ≤ a ∧ a < 3 + ((L + 1 : Nat) : Int)) := by omega
      rw [if_neg hin, if_neg h2]
theorem SvA.at_ {n L N M : Nat} {A : LS} {ys : List (List Int)} {Dn : Nat → Bool} {G : Nat → Nat → Bool} (h : SvA n ys L Dn G N M A) {k : Nat} (hk : k < L) {r : List Int} (hr : ys[k]? = some r) (hd : Dn k = false) : A.op (3 + (k : Int)) = some (⟨3 + (k : Int), 7, r⟩, G k) := by
  rw [h.op]; unfold opS
  have e2 : (3 + (k : Int) - 3).toNat = k := by omega
  rw [if_pos (by omega), e2, hd]
  simp [hr]
theorem SvA.gone {n L N M : Nat} {A : LS} {ys : List (List Int)} {Dn : Nat → Bool} {G : Nat → Nat → Bool} (h : SvA n ys L Dn G N M A) {k : Nat} (hk : k < L) (hd : Dn k = true) : A.op (3 + (k : Int)) = none := by
  rw [h.op]; unfold opS
  have e2 : (3 + (k : Int) - 3).toNat = k := by omega
  rw [if_pos (by omega), e2, hd]
  rfl
def setB {α : Type} (f : Nat → α) (k : Nat) (x : α) : Nat → α := fun i => if i = k then x else f i
theorem SvA.chosen {n L N M : Nat} {A : LS} {ys : List (List Int)} {Dn : Nat → Bool} {G : Nat → Nat → Bool} (h : SvA n ys L Dn G N M A) {k j : Nat} (hk : k < L) (hj : j < n) : SvA n ys L (setB Dn k true) (setB G k (addK (G k) j)) (N + 1) (M + 1) (opD A (3 + (k : Int))) := by
  refine ⟨h.many, h.ballot, h.stage, h.next, ?_, by have := h.small; omega, fun i q hg => ?_⟩
  · funext a
    show (if a = 3 + (k : Int) then none else A.op a) = _
    rw [h.op]; unfold opS setB
    by_cases e : a = 3 + (k : Int)
    · subst e
      have e2 : (3 + (k : Int) - 3).toNat = k := by omega
      rw [if_pos rfl, if_pos (by omega), e2]
      simp
    · rw [if_neg e]
      by_cases hin : 3 ≤ a ∧ a < 3 + (L : Int)
      · have e3 : ¬ (a - 3).toNat = k := by omega
        rw [if_pos hin, if_pos hin, if_neg e3, if_neg e3]
      · rw [if_neg hin, if_neg hin]
  · unfold setB at hg
    by_cases e : i = k
    · rw [if_pos e] at hg
      unfold addK at hg
      by_cases e2 : q = j
      · omega
      · rw [if_neg e2] at hg; exact h.who _ _ hg
    · rw [if_neg e] at hg; exact h.who _ _ hg
theorem SvA.voted {n L N M : Nat} {A : LS} {ys : List (List Int)} {Dn : Nat → Bool} {G : Nat → Nat → Bool} (h : SvA n ys L Dn G N M A) {k j : Nat} (hk : k < L) (hj : j < n) {r : List Int} (hr : ys[k]? = some r) (hd : Dn k = false) :
    SvA n ys L (setB Dn k false) (setB G k (addK (G k) j)) (N + 1) (M + 1) (opP A ⟨3 + (k : Int), 7, r⟩ (addK (G k) j)) := by
  refine ⟨h.many, h.ballot, h.stage, h.next, ?_, by have := h.small; omega, fun i q hg => ?_⟩
  · funext a
    show (if a = 3 + (k : Int) then some (⟨3 + (k : Int), 7, r⟩, addK (G k) j) else A.op a) = _
    rw [h.op]; unfold opS setB
    by_cases e : a = 3 + (k : Int)
    · subst e
      have e2 : (3 + (k : Int) - 3).toNat = k := by omega
      rw [if_pos rfl, if_pos (by omega), e2]
      simp [hr]
    · rw [if_neg e]
      by_cases hin : 3 ≤ a ∧ a < 3 + (L : Int)
      · have e3 : ¬ (a - 3).toNat = k := by omega
        rw [if_pos hin, if_pos hin, if_neg e3, if_neg e3]
      · rw [if_neg hin, if_neg hin]
  · unfold setB at hg
    by_cases e : i = k
    · rw [if_pos e] at hg
      unfold addK at hg
      by_cases e2 : q = j
      · omega
      · rw [if_neg e2] at hg; exact h.who _ _ hg
    · rw [if_neg e] at hg; exact h.who _ _ hg
theorem SvA.more {n L N M : Nat} {A : LS} {ys : List (List Int)} {Dn : Nat → Bool} {G : Nat → Nat → Bool} (h : SvA n ys L Dn G N M A) : SvA n ys L Dn G N (M + 1) A :=
  ⟨h.many, h.ballot, h.stage, h.next, h.op, by have := h.small; omega, h.who⟩
/-- How many are still open. -/
def leftN (Dn : Nat → Bool) (k : Nat) : Nat := ((List.range k).filter (fun i => !Dn i)).length
theorem leftN_succ (Dn : Nat → Bool) (k : Nat) : leftN Dn (k + 1) = leftN Dn k + (if Dn k then 0 else 1) := by
  unfold leftN
  rw [filter_succ]
  cases Dn k <;> simp
theorem leftN_le (Dn : Nat → Bool) (k : Nat) : leftN Dn k ≤ k := by
  unfold leftN
  have := List.length_filter_le (fun i => !Dn i) (List.range k)
  simpa using this
theorem SvA.open_ {n N M : Nat} {A : LS} {ys : List (List Int)} {Dn : Nat → Bool} {G : Nat → Nat → Bool} (h : SvA n ys ys.length Dn G N M A) {ks : List Int} (hk : IsOKeys A.op ks) : (opL A.op ks).length = leftN Dn ys.length := by
  have e : ks = ((List.range ys.length).filter (fun i => !Dn i)).map (fun (k : Nat) => 3 + (k : Int)) := by
    refine hk.eq ?_ (fun x => ?_)
    · rw [List.pairwise_map]
      exact (List.Pairwise.filter _ (List.pairwise_lt_range (n := ys.length))).imp (fun h => by omega)
    · rw [List.mem_map, h.op]
      unfold opS
      constructor
      · rintro ⟨k, hk, rfl⟩
        obtain ⟨h1, h2⟩ := List.mem_filter.1 hk
        have h1 := List.mem_range.1 h1
        have e2 : (3 + (k : Int) - 3).toNat = k := by omega
        rw [if_pos (by omega), e2]
        simp at h2
        simp [h2]
      · intro hx
        by_cases hin : 3 ≤ x ∧ x < 3 + (ys.length : Int)
        · rw [if_pos hin] at hx
          refine ⟨(x - 3).toNat, List.mem_filter.2 ⟨List.mem_range.2 (by omega), ?_⟩, by omega⟩
          cases hd : Dn (x - 3).toNat
          · rfl
          · rw [hd] at hx; cases hx
        · rw [if_neg hin] at hx; cases hx
  have hl : (opL A.op ks).length = ks.length := by
    have hall : ∀ x ∈ ks, (A.op x).isSome = true := fun x hx => (hk.2 x).1 hx
    clear e hk
    unfold opL
    induction ks with
    | nil => rfl
    | cons x r ih =>
      obtain ⟨q, hq⟩ := Option.isSome_iff_exists.1 (hall x (by simp))
      rw [List.filterMap_cons, hq]
      simp only [Option.map_some, List.length_cons]
      rw [ih (fun y hy => hall y (List.mem_cons_of_mem _ hy))]
  rw [hl, e]
  simp [leftN]
theorem cnt_short {n m : Nat} {f : Nat → Bool} (h : ∀ j, f j = true → j < n) (hm : n ≤ m) : cnt m f = cnt n f := by
  induction m with
  | zero => have : n = 0 := by omega
            subst this; rfl
  | succ m ih =>
    by_cases e : n = m + 1
    · rw [e]
    · show cnt m f + (if f m then 1 else 0) = cnt n f
      have : f m = false := by
        cases hf : f m
        · rfl
        · have := h m hf; omega
      rw [this, ih (by omega)]
      simp
theorem or_msk8 {f : Nat → Bool} {n : Nat} (hn : n < 8) : bits BinOp.or IntKind.u8 ((msk 8 f : Nat) : Int) ((2 : Int) ^ n % 256) = ((msk 8 (addK f n) : Nat) : Int) := by
  have h1 : (2 : Int) ^ n = ((2 ^ n : Nat) : Int) := by simp
  have h2 : 2 ^ n < 256 := Nat.pow_lt_pow_right (m := n) (n := 8) (by decide) hn
  have h3 := (bits_nat .u8 8 (by decide) wraps_u8 (msk 8 f) (2 ^ n) (msk_lt 8 f) h2).2
  rw [msk_or f hn] at h3
  rw [h1]
  generalize 2 ^ n = m at *
  rw [Int.emod_eq_of_lt (by omega) (by omega), h3]
theorem bit_of8 {f : Nat → Bool} {n : Nat} (hn : n < 8) : bits BinOp.and IntKind.u8 ((msk 8 f : Int) / 2 ^ n) 1 = if f n then 1 else 0 := by
  have hl : msk 8 f < 256 := msk_lt 8 f
  have hbit := msk_bit (n := 8) f hn
  have e1 : (msk 8 f : Int) / 2 ^ n = ((msk 8 f / 2 ^ n : Nat) : Int) := by simp
  have hle : msk 8 f / 2 ^ n ≤ msk 8 f := Nat.div_le_self _ _
  rw [e1]
  generalize msk 8 f / 2 ^ n = y at *
  rw [show bits BinOp.and IntKind.u8 (y : Int) 1 = (y : Int) % 2 from bits_mask .u8 8 (by decide) wraps_u8 1 (by decide) (y : Int) (by omega) (by omega)]
  split at hbit
  · rename_i h; rw [if_pos h]; omega
  · rename_i h; rw [if_neg h]; omega
end Go.Proofs.Ytjdjfhioobhcjaa
