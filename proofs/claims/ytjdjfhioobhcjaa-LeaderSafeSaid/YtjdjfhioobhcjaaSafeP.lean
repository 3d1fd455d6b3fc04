/-
  Package leader: plain laws for LeaderSafe.
-/
import Derived.Test.YtjdjfhioobhcjaaLeaX
import Derived.Test.YtjdjfhioobhcjaaAccL
namespace Go.Proofs.Ytjdjfhioobhcjaa
open Go.ChangeShapes Go.WideShapes Go.ChangeAt Go.RowKit Go.Maps
set_option maxRecDepth 100000

/-- Is a number's bit set? -/
def wbit (x : Int) (i : Nat) : Bool := decide (x / 2 ^ i % 2 = 1)
theorem wbit_and {x : Int} (h0 : 0 ≤ x) (h1 : x < 4294967296) (i : Nat) : bits BinOp.and IntKind.u32 (x / 2 ^ i) 1 = if wbit x i then 1 else 0 := by
  obtain ⟨m, rfl⟩ := Int.eq_ofNat_of_zero_le h0
  have e1 : (m : Int) / 2 ^ i = ((m / 2 ^ i : Nat) : Int) := by simp
  have hle : m / 2 ^ i ≤ m := Nat.div_le_self _ _
  unfold wbit
  rw [e1]
  generalize m / 2 ^ i = y at *
  rw [and1_u32 (by omega) (by omega)]
  by_cases h : (y : Int) % 2 = 1
  · rw [h]; simp
  · have : (y : Int) % 2 = 0 := by omega
    rw [this]; simp
theorem cnt_meet {n : Nat} {f g : Nat → Bool} (h : n < cnt n f + cnt n g) : ∃ j, j < n ∧ f j = true ∧ g j = true := by
  induction n with
  | zero => simp [cnt] at h
  | succ n ih =>
    unfold cnt at h
    by_cases hf : f n = true
    · by_cases hg : g n = true
      · exact ⟨n, by omega, hf, hg⟩
      · rw [if_pos hf, if_neg hg] at h
        obtain ⟨j, h1, h2⟩ := ih (by omega)
        exact ⟨j, by omega, h2⟩
    · rw [if_neg hf] at h
      have : (if g n = true then 1 else 0) ≤ 1 := by split <;> omega
      obtain ⟨j, h1, h2⟩ := ih (by omega)
      exact ⟨j, by omega, h2⟩
/-- What an acceptor voted for last. -/
def sfV (s b : Int) (val old : List Int) (w : Bool) : Vt := if w then ⟨s, b, val⟩ else ⟨s, b - 1, old⟩
def acc0 (s b : Int) (old : List Int) : AS := putA emptyAS ⟨s, b - 1, old⟩
def sfA (s b : Int) (val old : List Int) (w : Bool) : AS := if w then putA (acc0 s b old) ⟨s, b, val⟩ else acc0 s b old
theorem acc0_ok {s b : Int} {old : List Int} (hs : 0 ≤ s) (hb : 1 ≤ b) : accE emptyAS ⟨s, b - 1, old⟩ = 0 ∧ accR emptyAS ⟨s, b - 1, old⟩ = acc0 s b old := by
  have h : accE emptyAS ⟨s, b - 1, old⟩ = 0 := by
    unfold accE emptyAS; simp only; rw [if_neg (by omega), if_neg (by omega)]
  exact ⟨h, by unfold accR; rw [if_pos h]; rfl⟩
theorem acc1_ok {s b : Int} {val old : List Int} (hs : 0 ≤ s) : accE (acc0 s b old) ⟨s, b, val⟩ = 0 ∧ accR (acc0 s b old) ⟨s, b, val⟩ = sfA s b val old true := by
  have h : accE (acc0 s b old) ⟨s, b, val⟩ = 0 := by
    unfold accE acc0 putA emptyAS; simp only; rw [if_neg (by omega), if_neg (by omega)]
  exact ⟨h, by unfold accR; rw [if_pos h]; rfl⟩
theorem sfA_promised (s b : Int) (val old : List Int) (w : Bool) : (sfA s b val old w).promised ≤ b + 1 := by
  cases w
  · show b - 1 ≤ b + 1; omega
  · show b ≤ b + 1; omega
theorem sfA_l (s b : Int) (val old : List Int) (w : Bool) (a : Int) : (sfA s b val old w).l a = if a = s then some (sfV s b val old w) else none := by
  cases w
  · show (if a = s then some _ else none) = _
    rfl
  · show (if a = s then some _ else (if a = s then some _ else none)) = _
    by_cases e : a = s
    · rw [if_pos e, if_pos e]; rfl
    · rw [if_neg e, if_neg e, if_neg e]
theorem sfA_votes {s b : Int} {val old : List Int} {w : Bool} {ks : List Int} (hs : 0 ≤ s) (h : IsKeys (sfA s b val old w).l ks) : votL (sfA s b val old w).l ks 0 = [sfV s b val old w] := by
  have e : ks = [s] := rise_unique h.1 (List.pairwise_singleton _ _) (fun x => by
    rw [h.2 x, sfA_l]
    by_cases e : x = s
    · rw [if_pos e]; simp [e]
    · rw [if_neg e]; simp [e])
  subst e
  unfold votL
  simp [hs, sfA_l]
/-- The leader behind the first acceptors. -/
def anyP (pr : Nat → Bool) (i : Nat) : Bool := (List.range i).any pr
theorem anyP_succ (pr : Nat → Bool) (i : Nat) : anyP pr (i + 1) = (anyP pr i || pr i) := by
  unfold anyP; rw [List.range_succ, List.any_append]; simp
def knS (s b : Int) (val old : List Int) (pr wh : Nat → Bool) (i : Nat) : Int → Option Vt := fun a => if a = s then (if anyP pr i then some (sfV s b val old (anyP (fun j => pr j && wh j) i)) else none) else none
def promS (pr : Nat → Bool) (i : Nat) : Nat → Bool := fun j => decide (j < i) && pr j
structure StS (n : Nat) (s b : Int) (val old : List Int) (pr wh : Nat → Bool) (i : Nat) (A : LS) : Prop where
  many : A.many = n
  stage : A.stage = 1
  ballot : A.ballot = b + 1
  first : A.first = 0
  op : ∀ a, A.op a = none
  prom : A.prom = promS pr i
  kn : ∀ a, A.kn a = knS s b val old pr wh i a
theorem promS_succ {pr : Nat → Bool} {i : Nat} : promS pr (i + 1) = if pr i then addK (promS pr i) i else promS pr i := by
  funext j
  unfold promS
  by_cases e : j = i
  · subst e
    cases h : pr j
    · simp [h]
    · simp [addK]
  · have : decide (j < i + 1) = decide (j < i) := by rw [decide_eq_decide]; omega
    rw [this]
    cases h : pr i
    · simp
    · simp [addK, e]
theorem StS.start (n : Nat) (s b : Int) (val old : List Int) (pr wh : Nat → Bool) : StS n s b val old pr wh 0 (beginL (newLS n) (b + 1) 0) :=
  ⟨rfl, rfl, rfl, rfl, fun _ => rfl, by funext j; unfold promS; simp [beginL], fun a => by
    unfold knS anyP; simp [beginL]⟩
theorem StS.skip {n : Nat} {s b : Int} {val old : List Int} {pr wh : Nat → Bool} {i : Nat} {A : LS} (h : StS n s b val old pr wh i A) (hp : pr i = false) : StS n s b val old pr wh (i + 1) A :=
  ⟨h.many, h.stage, h.ballot, h.first, h.op, by rw [promS_succ, hp]; exact h.prom, fun a => by
    rw [h.kn]; unfold knS; rw [anyP_succ, anyP_succ, hp]; simp⟩
theorem StS.step {n : Nat} {s b : Int} {val old : List Int} {pr wh : Nat → Bool} {i : Nat} {A : LS} (h : StS n s b val old pr wh i A) (hp : pr i = true) : StS n s b val old pr wh (i + 1) (promV A i 0 [sfV s b val old (wh i)]) := by
  obtain ⟨h1, h2, h3, h4, h5, h6, h7⟩ := foldV_keeps [sfV s b val old (wh i)] (promL A i 0)
  refine ⟨h1.trans h.many, h2.trans h.stage, h3.trans h.ballot, ?_, fun a => ?_, ?_, fun a => ?_⟩
  · show (promV A i 0 _).first = 0
    unfold promV; rw [h4]; show max A.first 0 = 0; rw [h.first]; decide
  · show (promV A i 0 _).op a = none
    unfold promV; rw [h7]; exact h.op a
  · show (promV A i 0 _).prom = _
    unfold promV; rw [h6, promS_succ, hp]; show addK A.prom i = _; rw [h.prom]; rfl
  · show (addV (promL A i 0) (sfV s b val old (wh i))).kn a = _
    have hk : (promL A i 0).kn (sfV s b val old (wh i)).slot = knS s b val old pr wh i s := by
      have : (sfV s b val old (wh i)).slot = s := by unfold sfV; split <;> rfl
      rw [this]; exact h.kn s
    have hslot : (sfV s b val old (wh i)).slot = s := by unfold sfV; split <;> rfl
    have hka : (promL A i 0).kn a = knS s b val old pr wh i a := h.kn a
    unfold knS
    rw [anyP_succ, anyP_succ, hp]
    simp only [Bool.or_true, Bool.true_and, if_true]
    unfold addV
    by_cases ha : anyP pr i = true
    · have hks : (promL A i 0).kn (sfV s b val old (wh i)).slot = some (sfV s b val old (anyP (fun j => pr j && wh j) i)) := by
        rw [hk]; unfold knS; rw [if_pos rfl, if_pos ha]
      rw [newer_some hks]
      generalize anyP (fun j => pr j && wh j) i = x at *
      by_cases hn : (sfV s b val old x).ballot < (sfV s b val old (wh i)).ballot
      · have hx : x = false ∧ wh i = true := by
          unfold sfV at hn
          cases x <;> cases hw : wh i <;> simp [hw] at hn ⊢ <;> omega
        rw [if_pos (decide_eq_true hn)]
        show (if a = (sfV s b val old (wh i)).slot then some (sfV s b val old (wh i)) else (promL A i 0).kn a) = _
        rw [hslot, hx.1, hx.2]
        by_cases e : a = s
        · rw [if_pos e, if_pos e]; rfl
        · rw [if_neg e, if_neg e, hka]; unfold knS; rw [if_neg e]
      · have hx : (x || wh i) = x := by
          unfold sfV at hn
          cases x <;> cases hw : wh i <;> simp [hw] at hn ⊢
          omega
        rw [if_neg (by simpa using hn), hka, hx]
        unfold knS
        by_cases e : a = s
        · have hks2 := hks
          rw [hk] at hks2
          rw [if_pos e, if_pos e, if_pos ha]
          unfold knS at hks2
          rw [if_pos rfl, if_pos ha] at hks2
          exact hks2
        · rw [if_neg e, if_neg e]
    · have ha' : anyP pr i = false := by simpa using ha
      have hks : (promL A i 0).kn (sfV s b val old (wh i)).slot = none := by
        rw [hk]; unfold knS; rw [if_pos rfl, if_neg ha]
      have hno : anyP (fun j => pr j && wh j) i = false := by
        unfold anyP at ha' ⊢
        rw [List.any_eq_false] at ha' ⊢
        intro x hx
        have := ha' x hx
        simp at this
        simp [this]
      rw [newer_none hks, if_pos rfl]
      show (if a = (sfV s b val old (wh i)).slot then some (sfV s b val old (wh i)) else (promL A i 0).kn a) = _
      rw [hslot, hno]
      by_cases e : a = s
      · rw [if_pos e, if_pos e]; rfl
      · rw [if_neg e, if_neg e, hka]; unfold knS; rw [if_neg e]
theorem StS.known {n : Nat} {s b : Int} {val old : List Int} {pr wh : Nat → Bool} {i : Nat} {A : LS} (h : StS n s b val old pr wh (i + 1) A) (hp : pr i = true) (a : Int) : A.kn a = if a = s then some (sfV s b val old (anyP (fun j => pr j && wh j) (i + 1))) else none := by
  rw [h.kn]; unfold knS; rw [anyP_succ, hp]; simp
theorem StS.end_ {n : Nat} {s b : Int} {val old : List Int} {pr wh : Nat → Bool} {i : Nat} {A : LS} (h : StS n s b val old pr wh (i + 1) A) (hp : pr i = true) (hs : 0 ≤ s ∧ s < 16) : IsEnd A (s + 1) := by
  refine ⟨⟨by rw [h.first]; omega, by constructor <;> omega⟩, fun x hx _ => ?_, Or.inr ⟨s, by rw [h.known hp, if_pos rfl]; rfl, by rw [h.first]; exact hs.1, rfl⟩⟩
  rw [h.known hp] at hx
  by_cases e : x = s
  · omega
  · rw [if_neg e] at hx; cases hx
theorem StS.near {n : Nat} {s b : Int} {val old : List Int} {pr wh : Nat → Bool} {i : Nat} {A : LS} (h : StS n s b val old pr wh (i + 1) A) (hp : pr i = true) (hs : 0 ≤ s ∧ s < 16) : ¬ farL A := by
  rintro ⟨x, hx, h1, h2⟩
  rw [h.known hp] at hx
  rw [h.first] at h1 h2
  by_cases e : x = s
  · omega
  · rw [if_neg e] at hx; cases hx
theorem promS_cnt {n : Nat} {pr : Nat → Bool} {i : Nat} (hi : i ≤ n) (hn : n ≤ 32) : cnt 32 (promS pr i) = cnt n (promS pr i) := by
  have hf : ∀ j, promS pr i j = true → j < n := fun j hj => by
    unfold promS at hj
    simp at hj
    omega
  have key : ∀ m, n ≤ m → cnt m (promS pr i) = cnt n (promS pr i) := by
    intro m hm
    induction m with
    | zero => have : n = 0 := by omega
              subst this; rfl
    | succ m ih =>
      by_cases e : n = m + 1
      · rw [e]
      · show cnt m (promS pr i) + (if promS pr i m then 1 else 0) = cnt n (promS pr i)
        have : promS pr i m = false := by
          cases hq : promS pr i m
          · rfl
          · have := hf m hq; omega
        rw [this, ih (by omega)]
        simp
  exact key 32 hn
/-- A majority that voted and one that promised have an acceptor in common. -/
theorem StS.meets {n : Nat} {pr wh : Nat → Bool} {i : Nat} (hi : i ≤ n) (hn : n ≤ 32) (h1 : (n : Int) / 2 < cnt 32 (promS pr i)) (h2 : (n : Int) / 2 < cnt n wh) : anyP (fun j => pr j && wh j) i = true := by
  rw [promS_cnt hi hn] at h1
  obtain ⟨j, hj, g1, g2⟩ := cnt_meet (n := n) (f := promS pr i) (g := wh) (by omega)
  unfold promS at g1
  simp at g1
  unfold anyP
  rw [List.any_eq_true]
  exact ⟨j, List.mem_range.2 g1.1, by simp [g1.2, g2]⟩
theorem leadS_val {n : Nat} {s b : Int} {val old : List Int} {pr wh : Nat → Bool} {i : Nat} {A : LS} (h : StS n s b val old pr wh (i + 1) A) (hp : pr i = true) : (kOr A s).val = if anyP (fun j => pr j && wh j) (i + 1) then val else old := by
  unfold kOr
  rw [h.known hp, if_pos rfl]
  show (sfV s b val old (anyP (fun j => pr j && wh j) (i + 1))).val = _
  unfold sfV
  split <;> rfl
end Go.Proofs.Ytjdjfhioobhcjaa
