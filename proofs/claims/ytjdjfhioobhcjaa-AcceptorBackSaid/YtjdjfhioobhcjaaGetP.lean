/-
  Votes as bytes, in plain lists; no program in sight.
-/
import Derived.Test.YtjdjfhioobhcjaaNumP
import Derived.Test.YtjdjfhioobhcjaaAcc5
namespace Go.Proofs.Ytjdjfhioobhcjaa

def putVt (v : Vt) : List Int := putU v.slot ++ putU v.ballot ++ putB v.val
def putVs (l : List Vt) : List Int := l.flatMap putVt
/-- Votes as bytes. -/
def putV (l : List Vt) : List Int := putU l.length ++ putVs l
theorem putVs_nil : putVs [] = [] := rfl
theorem putVs_snoc (l : List Vt) (v : Vt) : putVs (l ++ [v]) = putVs l ++ (putU v.slot ++ putU v.ballot ++ putB v.val) := by simp [putVs, putVt]
theorem putVs_cons (l : List Vt) (v : Vt) : putVs (v :: l) = putU v.slot ++ (putU v.ballot ++ (putB v.val ++ putVs l)) := by simp [putVs, putVt]
theorem putVs_len {l : List Vt} {M : Nat} (h : ∀ v ∈ l, v.val.length ≤ M) : (putVs l).length ≤ l.length * (27 + M) := by
  induction l with
  | nil => simp [putVs]
  | cons v l ih =>
    have h1 := ih (fun x hx => h x (by simp [hx]))
    have h2 := h v (by simp)
    have s1 := sz_le v.slot
    have s2 := sz_le v.ballot
    have s3 := sz_le (v.val.length : Int)
    rw [putVs_cons]
    simp only [List.length_append, putU_len, putB, List.length_cons]
    rw [Nat.add_mul]
    omega
theorem putVs_U8 {l : List Vt} (h : ∀ v ∈ l, U8 v.val) : U8 (putVs l) := by
  induction l with
  | nil => intro y hy; cases hy
  | cons v l ih =>
    intro y hy
    rw [putVs_cons] at hy
    simp only [List.mem_append, putB] at hy
    rcases hy with hy | hy | (hy | hy) | hy
    · exact putU_U8 _ y hy
    · exact putU_U8 _ y hy
    · exact putU_U8 _ y hy
    · exact h v (by simp) y hy
    · exact ih (fun x hx => h x (by simp [hx])) y hy
theorem putV_U8 {l : List Vt} (h : ∀ v ∈ l, U8 v.val) : U8 (putV l) := by
  intro y hy
  rcases List.mem_append.1 hy with hy | hy
  · exact putU_U8 _ y hy
  · exact putVs_U8 h y hy
/-- Is a slot no greater than the last one? -/
def notAbove (out : List Vt) (x : Int) : Bool := match out.getLast? with | none => false | some v => decide (x ≤ v.slot)
/-- The votes that are left to be read, so many. -/
def getL : Nat → RS → List Vt → Int × List Vt
  | 0, r, out => if rEnd r ≠ 0 then (rEnd r, []) else (0, out)
  | n + 1, r, out =>
    if (rU r).1.e ≠ 0 then ((rU r).1.e, []) else
    if notAbove out (rU r).2 = true then (11, []) else
    if (rB (32768 : Nat) (rU (rU r).1).1).1.e ≠ 0 then ((rB (32768 : Nat) (rU (rU r).1).1).1.e, []) else
    getL n (rB (32768 : Nat) (rU (rU r).1).1).1 (out ++ [⟨(rU r).2, (rU (rU r).1).2, (rB (32768 : Nat) (rU (rU r).1).1).2⟩])
/-- The votes of bytes. -/
def getV (b : List Int) : Int × List Vt := getL (rU ⟨b, 0⟩).2.toNat (rU ⟨b, 0⟩).1 []
theorem getL_one {n : Nat} {r : RS} {out : List Vt} (h : (rU r).1.e ≠ 0) : getL (n + 1) r out = ((rU r).1.e, []) := by unfold getL; rw [if_pos h]
theorem getL_two {n : Nat} {r : RS} {out : List Vt} (h : (rU r).1.e = 0) (h2 : notAbove out (rU r).2 = true) : getL (n + 1) r out = (11, []) := by unfold getL; rw [if_neg (by simp [h]), if_pos h2]
theorem getL_three {n : Nat} {r : RS} {out : List Vt} (h : (rU r).1.e = 0) (h2 : notAbove out (rU r).2 = false) (h3 : (rB (32768 : Nat) (rU (rU r).1).1).1.e ≠ 0) :
    getL (n + 1) r out = ((rB (32768 : Nat) (rU (rU r).1).1).1.e, []) := by
  rw [getL, if_neg (by simp [h]), if_neg (by simp [h2]), if_pos h3]
theorem getL_four {n : Nat} {r : RS} {out : List Vt} (h : (rU r).1.e = 0) (h2 : notAbove out (rU r).2 = false) (h3 : (rB (32768 : Nat) (rU (rU r).1).1).1.e = 0) :
    getL (n + 1) r out = getL n (rB (32768 : Nat) (rU (rU r).1).1).1 (out ++ [⟨(rU r).2, (rU (rU r).1).2, (rB (32768 : Nat) (rU (rU r).1).1).2⟩]) := by
  rw [getL, if_neg (by simp [h]), if_neg (by simp [h2]), if_neg (fun hne => hne h3)]
theorem rFail_e {x : Int} (hx : x ≠ 0) (r : RS) : (rFail x r).e ≠ 0 := by
  unfold rFail
  split
  · exact hx
  · assumption
/-- What was read has gone. -/
theorem rTake_less {n : Nat} {r : RS} (h : (rTake n r).1.e = 0) : (rTake n r).1.b.length + n = r.b.length := by
  unfold rTake at *
  by_cases he : r.e = 0
  · rw [if_neg (by simp [he])] at *
    by_cases hl : r.b.length < n
    · rw [if_pos hl] at h; simp at h
    · rw [if_neg hl]; simp; omega
  · rw [if_pos he] at h; exact absurd h he
theorem rUB_less {d : List Int} {r : RS} (h : (rUB d r).1.e = 0) : (rUB d r).1 = r := by
  unfold rUB at *
  cases d with
  | nil => rfl
  | cons c l =>
    simp only at *
    by_cases hc : c = 0
    · rw [if_pos hc] at h; exact absurd h (rFail_e (by decide) r)
    · rw [if_neg hc]
theorem rU_less {r : RS} (h : (rU r).1.e = 0) : (rU r).1.b.length + 1 ≤ r.b.length := by
  unfold rU at *
  have h1 : (rTake 1 r).1.e = 0 → (rTake 1 r).1.b.length + 1 = r.b.length := rTake_less
  generalize (rTake 1 r).1 = r1 at *
  cases hl : (rTake 1 r).2 with
  | nil => rw [hl] at h; have := h1 h; simp [rUA]; omega
  | cons x t =>
    rw [hl] at h
    simp only [rUA] at *
    by_cases h8 : 8 < x
    · rw [if_pos h8] at h; exact absurd h (rFail_e (by decide) r1)
    · rw [if_neg h8] at *
      have e := rUB_less h
      rw [e] at h ⊢
      have h2 := rTake_less h
      have h3 : r1.e = 0 := by
        by_cases h0 : r1.e = 0
        · exact h0
        · rw [rTake_err h0] at h; exact absurd h h0
      have := h1 h3
      omega
theorem rB_less {m : Int} {r : RS} (h : (rB m r).1.e = 0) : (rB m r).1.b.length + 1 ≤ r.b.length ∧ (rU r).1.e = 0 := by
  unfold rB at *
  by_cases he : (rU r).1.e = 0
  · have hu := rU_less he
    rw [if_neg (by simp [he])] at *
    by_cases hg : (rU r).2 > m
    · rw [if_pos hg] at h; exact absurd h (rFail_e (by decide) _)
    · rw [if_neg hg] at *
      have := rTake_less h
      exact ⟨by omega, he⟩
  · rw [if_pos he] at h; exact absurd h he
theorem rU_le (r : RS) : (rU r).1.b.length ≤ r.b.length := by
  have hf : ∀ (x : Int) (q : RS), (rFail x q).b = q.b := fun x q => by unfold rFail; split <;> rfl
  have ht : ∀ (n : Nat) (q : RS), (rTake n q).1.b.length ≤ q.b.length := fun n q => by
    unfold rTake
    split
    · simp
    · split <;> simp
  have h1 := ht 1 r
  unfold rU
  generalize (rTake 1 r).1 = r1 at *
  generalize (rTake 1 r).2 = l at *
  cases l with
  | nil => exact h1
  | cons x t =>
    simp only [rUA]
    split
    · rw [hf]; exact h1
    · have h2 := ht x.toNat r1
      generalize (rTake x.toNat r1).2 = d at *
      cases d with
      | nil => simp only [rUB]; omega
      | cons c l =>
        simp only [rUB]
        split
        · rw [hf]; omega
        · show (rTake x.toNat r1).1.b.length ≤ _; omega
theorem rTake_e {n : Nat} {r : RS} (h : (rTake n r).1.e ≠ 0) : (rTake n r).2 = [] := by
  unfold rTake at *
  by_cases he : r.e = 0
  · rw [if_neg (by simp [he])] at *
    by_cases hl : r.b.length < n
    · rw [if_pos hl]
    · rw [if_neg hl] at h; exact absurd rfl h
  · rw [if_pos he]
theorem rU_zero {r : RS} (h : (rU r).1.e ≠ 0) : (rU r).2 = 0 := by
  unfold rU at *
  generalize (rTake 1 r).1 = r1 at *
  generalize (rTake 1 r).2 = l at *
  cases l with
  | nil => rfl
  | cons x t =>
    simp only [rUA] at *
    by_cases h8 : 8 < x
    · rw [if_pos h8]
    · rw [if_neg h8] at *
      have ht := rTake_e (n := x.toNat) (r := r1)
      generalize (rTake x.toNat r1).1 = r2 at *
      generalize (rTake x.toNat r1).2 = d at *
      cases d with
      | nil => rfl
      | cons c l =>
        simp only [rUB] at *
        by_cases hc : c = 0
        · rw [if_pos hc]
        · rw [if_neg hc] at h
          exact absurd (ht h) (by simp)
theorem rU_b8 {r : RS} (h8 : U8 r.b) (hl : r.b.length ≤ 1000000000) : U8 (rU r).1.b ∧ (rU r).1.b.length ≤ 1000000000 := by
  have h1 := rTake_b (n := 1) h8 hl
  have hf : ∀ (x : Int) (q : RS), (rFail x q).b = q.b := fun x q => by unfold rFail; split <;> rfl
  unfold rU
  generalize (rTake 1 r).1 = r1 at *
  generalize (rTake 1 r).2 = l at *
  cases l with
  | nil => exact ⟨h1.1, h1.2.1⟩
  | cons x t =>
    simp only [rUA]
    split
    · rw [hf]; exact ⟨h1.1, h1.2.1⟩
    · have h2 := rTake_b (n := x.toNat) h1.1 h1.2.1
      generalize (rTake x.toNat r1).2 = d at *
      cases d with
      | nil => exact ⟨h2.1, h2.2.1⟩
      | cons c l =>
        simp only [rUB]
        split
        · rw [hf]; exact ⟨h2.1, h2.2.1⟩
        · exact ⟨h2.1, h2.2.1⟩
theorem rB_b8 {m : Int} {r : RS} (h8 : U8 r.b) (hl : r.b.length ≤ 1000000000) : U8 (rB m r).1.b ∧ (rB m r).1.b.length ≤ r.b.length := by
  have hU := rU_b8 h8 hl
  have hle := rU_le r
  have hf : ∀ (x : Int) (q : RS), (rFail x q).b = q.b := fun x q => by unfold rFail; split <;> rfl
  unfold rB
  split
  · exact ⟨hU.1, hle⟩
  · split
    · rw [hf]; exact ⟨hU.1, hle⟩
    · have h2 := rTake_b (n := (rU r).2.toNat) hU.1 hU.2
      refine ⟨h2.1, Nat.le_trans ?_ hle⟩
      unfold rTake
      split
      · exact Nat.le_refl _
      · split <;> simp
theorem rB_val {m : Int} {r : RS} (h8 : U8 r.b) (hl : r.b.length ≤ 1000000000) : U8 (rB m r).2 ∧ (rB m r).2.length ≤ 1000000000 := by
  have hU : U8 (rU r).1.b ∧ (rU r).1.b.length ≤ 1000000000 := by
    have h1 := rTake_b (n := 1) h8 hl
    have hf : ∀ (x : Int) (q : RS), (rFail x q).b = q.b := fun x q => by unfold rFail; split <;> rfl
    unfold rU
    generalize (rTake 1 r).1 = r1 at *
    generalize (rTake 1 r).2 = l at *
    cases l with
    | nil => exact ⟨h1.1, h1.2.1⟩
    | cons x t =>
      simp only [rUA]
      split
      · rw [hf]; exact ⟨h1.1, h1.2.1⟩
      · have h2 := rTake_b (n := x.toNat) h1.1 h1.2.1
        generalize (rTake x.toNat r1).2 = d at *
        cases d with
        | nil => exact ⟨h2.1, h2.2.1⟩
        | cons c l =>
          simp only [rUB]
          split
          · rw [hf]; exact ⟨h2.1, h2.2.1⟩
          · exact ⟨h2.1, h2.2.1⟩
  unfold rB
  split
  · exact ⟨(by intro y hy; cases hy), by simp⟩
  · split
    · exact ⟨(by intro y hy; cases hy), by simp⟩
    · have h2 := rTake_b (n := (rU r).2.toNat) hU.1 hU.2
      exact ⟨h2.2.2.1, h2.2.2.2⟩
/-- Votes whose slots rise. -/
theorem getL_put {l : List Vt} (hv : ∀ v ∈ l, (0 ≤ v.slot ∧ v.slot < 18446744073709551616) ∧ (0 ≤ v.ballot ∧ v.ballot < 18446744073709551616) ∧ v.val.length ≤ 32768) :
    ∀ out, (out ++ l).Pairwise (fun a b => a.slot < b.slot) → getL l.length ⟨putVs l, 0⟩ out = (0, out ++ l) := by
  induction l with
  | nil => intro out _; simp [getL, putVs, rEnd]
  | cons v l ih =>
    intro out hp
    obtain ⟨⟨a0, a1⟩, ⟨b0, b1⟩, c0⟩ := hv v (by simp)
    have e1 : rU ⟨putVs (v :: l), 0⟩ = (⟨putU v.ballot ++ (putB v.val ++ putVs l), 0⟩, v.slot) := by rw [putVs_cons]; exact rU_app a0 a1 _
    have e2 : rU ⟨putU v.ballot ++ (putB v.val ++ putVs l), 0⟩ = (⟨putB v.val ++ putVs l, 0⟩, v.ballot) := rU_app b0 b1 _
    have e3 : rB (32768 : Nat) ⟨putB v.val ++ putVs l, 0⟩ = (⟨putVs l, 0⟩, v.val) := rB_app _ (by omega) (by omega) _
    have hn : notAbove out v.slot = false := by
      unfold notAbove
      cases hl : out.getLast? with
      | none => rfl
      | some x =>
        have hx := List.mem_of_getLast? hl
        have := (List.pairwise_append.1 hp).2.2 x hx v (by simp)
        simp; omega
    rw [List.length_cons, getL_four (by rw [e1]) (by rw [e1]; exact hn) (by rw [e1, e2, e3]), e1, e2, e3]
    simp only
    have hi := ih (fun x hx => hv x (by simp [hx])) (out ++ [v]) (by simpa using hp)
    rw [show (⟨v.slot, v.ballot, v.val⟩ : Vt) = v from rfl, hi]
    simp
theorem getV_put {l : List Vt} (hv : ∀ v ∈ l, (0 ≤ v.slot ∧ v.slot < 18446744073709551616) ∧ (0 ≤ v.ballot ∧ v.ballot < 18446744073709551616) ∧ v.val.length ≤ 32768) (hp : l.Pairwise (fun a b => a.slot < b.slot)) (hl : l.length < 1000000000) :
    getV (putV l) = (0, l) := by
  unfold getV putV
  rw [rU_app (by omega) (by omega)]
  simp only [Int.toNat_natCast]
  exact getL_put hv [] (by simpa using hp)
/-- Votes that are cut. -/
theorem getL_cut {l : List Vt} (hv : ∀ v ∈ l, (0 ≤ v.slot ∧ v.slot < 18446744073709551616) ∧ (0 ≤ v.ballot ∧ v.ballot < 18446744073709551616) ∧ v.val.length ≤ 32768) :
    ∀ out m, (out ++ l).Pairwise (fun a b => a.slot < b.slot) → m < (putVs l).length → (getL l.length ⟨(putVs l).take m, 0⟩ out).1 = 10 := by
  induction l with
  | nil => intro out m _ hm; simp [putVs] at hm
  | cons v l ih =>
    intro out m hp hm
    obtain ⟨⟨a0, a1⟩, ⟨b0, b1⟩, c0⟩ := hv v (by simp)
    rw [putVs_cons] at hm ⊢
    rw [List.length_cons]
    by_cases h1 : m < (putU v.slot).length
    · rw [take_app_lt (by omega), getL_one (by rw [rU_cut m h1]; decide)]
      exact rU_cut m h1
    · rw [take_app_ge (by omega)]
      have e1 := rU_app a0 a1 ((putU v.ballot ++ (putB v.val ++ putVs l)).take (m - (putU v.slot).length))
      have hn : notAbove out v.slot = false := by
        unfold notAbove
        cases hl : out.getLast? with
        | none => rfl
        | some x =>
          have hx := List.mem_of_getLast? hl
          have := (List.pairwise_append.1 hp).2.2 x hx v (by simp)
          simp; omega
      have hm2 : m - (putU v.slot).length < (putU v.ballot ++ (putB v.val ++ putVs l)).length := by rw [List.length_append] at hm; omega
      generalize m - (putU v.slot).length = m2 at *
      by_cases h2 : m2 < (putU v.ballot).length
      · rw [take_app_lt (a := putU v.ballot) (by omega)] at *
        have e2 : (rU ⟨(putU v.ballot).take m2, 0⟩).1.e = 10 := rU_cut m2 h2
        have e3 : rB (32768 : Nat) (rU ⟨(putU v.ballot).take m2, 0⟩).1 = ((rU ⟨(putU v.ballot).take m2, 0⟩).1, []) := rB_err (by rw [e2]; decide)
        rw [getL_three (by rw [e1]) (by rw [e1]; exact hn) (by rw [e1]; simp only; rw [e3, e2]; decide), e1]
        simp only
        rw [e3, e2]
      · rw [take_app_ge (a := putU v.ballot) (by omega)] at *
        have e2 := rU_app b0 b1 ((putB v.val ++ putVs l).take (m2 - (putU v.ballot).length))
        have hm3 : m2 - (putU v.ballot).length < (putB v.val ++ putVs l).length := by rw [List.length_append] at hm2; omega
        generalize m2 - (putU v.ballot).length = m3 at *
        by_cases h3 : m3 < (putB v.val).length
        · rw [take_app_lt (a := putB v.val) (by omega)] at *
          have e3 := rB_cut (l := v.val) (32768 : Nat) (by omega) (by omega) m3 h3
          rw [getL_three (by rw [e1]) (by rw [e1]; exact hn) (by rw [e1]; simp only; rw [e2]; simp only; rw [e3]; decide), e1]
          simp only
          rw [e2]
          exact e3
        · rw [take_app_ge (a := putB v.val) (by omega)] at *
          have e3 := rB_app (l := v.val) (32768 : Nat) (by omega) (by omega) ((putVs l).take (m3 - (putB v.val).length))
          have hm4 : m3 - (putB v.val).length < (putVs l).length := by rw [List.length_append] at hm3; omega
          rw [getL_four (by rw [e1]) (by rw [e1]; exact hn) (by rw [e1]; simp only; rw [e2]; simp only; rw [e3]), e1]
          simp only
          rw [e2]
          simp only
          rw [e3]
          simp only
          exact ih (fun x hx => hv x (by simp [hx])) (out ++ [⟨v.slot, v.ballot, v.val⟩]) _ (by simpa using hp) hm4
theorem getV_cut {l : List Vt} (hv : ∀ v ∈ l, (0 ≤ v.slot ∧ v.slot < 18446744073709551616) ∧ (0 ≤ v.ballot ∧ v.ballot < 18446744073709551616) ∧ v.val.length ≤ 32768) (hp : l.Pairwise (fun a b => a.slot < b.slot)) (hl : l.length < 1000000000) (m : Nat) (hm : m < (putV l).length) :
    (getV ((putV l).take m)).1 = 10 := by
  unfold getV putV at *
  by_cases h1 : m < (putU l.length).length
  · rw [take_app_lt (by omega)]
    have e := rU_cut m h1
    have h0 : (rU ⟨(putU (l.length : Int)).take m, 0⟩).2 = 0 := by
      unfold rU at *
      generalize (rTake 1 ⟨(putU (l.length : Int)).take m, 0⟩).1 = r1 at *
      generalize (rTake 1 ⟨(putU (l.length : Int)).take m, 0⟩).2 = l1 at *
      cases l1 with
      | nil => rfl
      | cons x t =>
        simp only [rUA] at *
        by_cases h8 : 8 < x
        · rw [if_pos h8]
        · rw [if_neg h8] at *
          generalize hq : rTake x.toNat r1 = q at *
          obtain ⟨q1, q2⟩ := q
          cases q2 with
          | nil => rfl
          | cons c d =>
            simp only [rUB] at *
            by_cases hc : c = 0
            · rw [if_pos hc]
            · rw [if_neg hc] at e
              have : q1.e = 0 := by
                unfold rTake at hq
                by_cases he : r1.e = 0
                · rw [if_neg (by simp [he])] at hq
                  split at hq
                  · have := congrArg Prod.snd hq; cases this
                  · exact (congrArg (fun q : RS × List Int => q.1.e) hq).symm
                · rw [if_pos he] at hq; have := congrArg Prod.snd hq; cases this
              rw [this] at e; cases e
    rw [h0]
    show (getL 0 _ []).1 = 10
    unfold getL rEnd
    rw [e]
    simp
  · rw [take_app_ge (by omega), rU_app (by omega) (by omega)]
    simp only [Int.toNat_natCast]
    exact getL_cut hv [] _ (by simpa using hp) (by rw [List.length_append] at hm; omega)
end Go.Proofs.Ytjdjfhioobhcjaa
