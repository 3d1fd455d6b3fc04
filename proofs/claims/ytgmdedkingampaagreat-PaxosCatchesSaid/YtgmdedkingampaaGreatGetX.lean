/-
  Package acceptor: votes of bytes: Get.
-/
import Derived.Test.YtgmdedkingampaaGreatNumP
import Derived.Test.YtgmdedkingampaaGreatAcc7
import Derived.Test.YtgmdedkingampaaGreatNumW
import Derived.Test.YtgmdedkingampaaGreatSepB
set_option linter.unusedVariables false
set_option linter.unusedSimpArgs false
namespace Go.Proofs.YtgmdedkingampaaGreat

def putVt (v : Vt) : List Int := putU v.slot ++ putU v.ballot ++ putB v.val
def putVs (l : List Vt) : List Int := l.flatMap putVt
/-- Votes as bytes. -/
def putV (l : List Vt) : List Int := putU l.length ++ putVs l
theorem putVs_nil : putVs [] = [] := rfl
theorem putVs_snoc (l : List Vt) (v : Vt) : putVs (l ++ [v]) = putVs l ++ (putU v.slot ++ putU v.ballot ++ putB v.val) := by simp [putVs, putVt]
theorem putVs_cons (l : List Vt) (v : Vt) : putVs (v :: l) = putU v.slot ++ (putU v.ballot ++ (putB v.val ++ putVs l)) := by simp [putVs, putVt]
theorem putVs_len {l : List Vt} {M : Nat} (h : ∀ v ∈ l, v.val.length ≤ M) : (putVs l).length ≤ l.length * (27 + M) := by
  induction l with
  | nil => simp [putVs]
  | cons v l ih =>
    have h1 := ih (fun x hx => h x (by simp [hx]))
    have h2 := h v (by simp)
    have s1 := sz_le v.slot
    have s2 := sz_le v.ballot
    have s3 := sz_le (v.val.length : Int)
    rw [putVs_cons]
    simp only [List.length_append, putU_len, putB, List.length_cons]
    rw [Nat.add_mul]
    omega
theorem putVs_U8 {l : List Vt} (h : ∀ v ∈ l, U8 v.val) : U8 (putVs l) := by
  induction l with
  | nil => intro y hy; cases hy
  | cons v l ih =>
    intro y hy
    rw [putVs_cons] at hy
    simp only [List.mem_append, putB] at hy
    rcases hy with hy | hy | (hy | hy) | hy
    · exact putU_U8 _ y hy
    · exact putU_U8 _ y hy
    · exact putU_U8 _ y hy
    · exact h v (by simp) y hy
    · exact ih (fun x hx => h x (by simp [hx])) y hy
theorem putV_U8 {l : List Vt} (h : ∀ v ∈ l, U8 v.val) : U8 (putV l) := by
  intro y hy
  rcases List.mem_append.1 hy with hy | hy
  · exact putU_U8 _ y hy
  · exact putVs_U8 h y hy
/-- Is a slot no greater than the last one? -/
def notAbove (out : List Vt) (x : Int) : Bool := match out.getLast? with | none => false | some v => decide (x ≤ v.slot)
/-- The votes that are left to be read, so many. -/
def getL : Nat → RS → List Vt → Int × List Vt
  | 0, r, out => if rEnd r ≠ 0 then (rEnd r, []) else (0, out)
  | n + 1, r, out =>
    if (rU r).1.e ≠ 0 then ((rU r).1.e, []) else
    if notAbove out (rU r).2 = true then (11, []) else
    if (rB (32768 : Nat) (rU (rU r).1).1).1.e ≠ 0 then ((rB (32768 : Nat) (rU (rU r).1).1).1.e, []) else
    getL n (rB (32768 : Nat) (rU (rU r).1).1).1 (out ++ [⟨(rU r).2, (rU (rU r).1).2, (rB (32768 : Nat) (rU (rU r).1).1).2⟩])
/-- The votes of bytes. -/
def getV (b : List Int) : Int × List Vt := getL (rU ⟨b, 0⟩).2.toNat (rU ⟨b, 0⟩).1 []
theorem getL_one {n : Nat} {r : RS} {out : List Vt} (h : (rU r).1.e ≠ 0) : getL (n + 1) r out = ((rU r).1.e, []) := by unfold getL; rw [if_pos h]
theorem getL_two {n : Nat} {r : RS} {out : List Vt} (h : (rU r).1.e = 0) (h2 : notAbove out (rU r).2 = true) : getL (n + 1) r out = (11, []) := by unfold getL; rw [if_neg (by simp [h]), if_pos h2]
theorem getL_three {n : Nat} {r : RS} {out : List Vt} (h : (rU r).1.e = 0) (h2 : notAbove out (rU r).2 = false) (h3 : (rB (32768 : Nat) (rU (rU r).1).1).1.e ≠ 0) :
    getL (n + 1) r out = ((rB (32768 : Nat) (rU (rU r).1).1).1.e, []) := by
  rw [getL, if_neg (by simp [h]), if_neg (by simp [h2]), if_pos h3]
theorem getL_four {n : Nat} {r : RS} {out : List Vt} (h : (rU r).1.e = 0) (h2 : notAbove out (rU r).2 = false) (h3 : (rB (32768 : Nat) (rU (rU r).1).1).1.e = 0) :
    getL (n + 1) r out = getL n (rB (32768 : Nat) (rU (rU r).1).1).1 (out ++ [⟨(rU r).2, (rU (rU r).1).2, (rB (32768 : Nat) (rU (rU r).1).1).2⟩]) := by
  rw [getL, if_neg (by simp [h]), if_neg (by simp [h2]), if_neg (fun hne => hne h3)]
theorem rFail_e {x : Int} (hx : x ≠ 0) (r : RS) : (rFail x r).e ≠ 0 := by
  unfold rFail
  split
  · exact hx
  · assumption
/-- What was read has gone. -/
theorem rTake_less {n : Nat} {r : RS} (h : (rTake n r).1.e = 0) : (rTake n r).1.b.length + n = r.b.length := by
  unfold rTake at *
  by_cases he : r.e = 0
  · rw [if_neg (by simp [he])] at *
    by_cases hl : r.b.length < n
    · rw [if_pos hl] at h; simp at h
    · rw [if_neg hl]; simp; omega
  · rw [if_pos he] at h; exact absurd h he
theorem rUB_less {d : List Int} {r : RS} (h : (rUB d r).1.e = 0) : (rUB d r).1 = r := by
  unfold rUB at *
  cases d with
  | nil => rfl
  | cons c l =>
    simp only at *
    by_cases hc : c = 0
    · rw [if_pos hc] at h; exact absurd h (rFail_e (by decide) r)
    · rw [if_neg hc]
theorem rU_less {r : RS} (h : (rU r).1.e = 0) : (rU r).1.b.length + 1 ≤ r.b.length := by
  unfold rU at *
  have h1 : (rTake 1 r).1.e = 0 → (rTake 1 r).1.b.length + 1 = r.b.length := rTake_less
  generalize (rTake 1 r).1 = r1 at *
  cases hl : (rTake 1 r).2 with
  | nil => rw [hl] at h; have := h1 h; simp [rUA]; omega
  | cons x t =>
    rw [hl] at h
    simp only [rUA] at *
    by_cases h8 : 8 < x
    · rw [if_pos h8] at h; exact absurd h (rFail_e (by decide) r1)
    · rw [if_neg h8] at *
      have e := rUB_less h
      rw [e] at h ⊢
      have h2 := rTake_less h
      have h3 : r1.e = 0 := by
        by_cases h0 : r1.e = 0
        · exact h0
        · rw [rTake_err h0] at h; exact absurd h h0
      have := h1 h3
      omega
theorem rB_less {m : Int} {r : RS} (h : (rB m r).1.e = 0) : (rB m r).1.b.length + 1 ≤ r.b.length ∧ (rU r).1.e = 0 := by
  unfold rB at *
  by_cases he : (rU r).1.e = 0
  · have hu := rU_less he
    rw [if_neg (by simp [he])] at *
    by_cases hg : (rU r).2 > m
    · rw [if_pos hg] at h; exact absurd h (rFail_e (by decide) _)
    · rw [if_neg hg] at *
      have := rTake_less h
      exact ⟨by omega, he⟩
  · rw [if_pos he] at h; exact absurd h he
theorem rU_le (r : RS) : (rU r).1.b.length ≤ r.b.length := by
  have hf : ∀ (x : Int) (q : RS), (rFail x q).b = q.b := fun x q => by unfold rFail; split <;> rfl
  have ht : ∀ (n : Nat) (q : RS), (rTake n q).1.b.length ≤ q.b.length := fun n q => by
    unfold rTake
    split
    · simp
    · split <;> simp
  have h1 := ht 1 r
  unfold rU
  generalize (rTake 1 r).1 = r1 at *
  generalize (rTake 1 r).2 = l at *
  cases l with
  | nil => exact h1
  | cons x t =>
    simp only [rUA]
    split
    · rw [hf]; exact h1
    · have h2 := ht x.toNat r1
      generalize (rTake x.toNat r1).2 = d at *
      cases d with
      | nil => simp only [rUB]; omega
      | cons c l =>
        simp only [rUB]
        split
        · rw [hf]; omega
        · show (rTake x.toNat r1).1.b.length ≤ _; omega
theorem rTake_e {n : Nat} {r : RS} (h : (rTake n r).1.e ≠ 0) : (rTake n r).2 = [] := by
  unfold rTake at *
  by_cases he : r.e = 0
  · rw [if_neg (by simp [he])] at *
    by_cases hl : r.b.length < n
    · rw [if_pos hl]
    · rw [if_neg hl] at h; exact absurd rfl h
  · rw [if_pos he]
theorem rU_zero {r : RS} (h : (rU r).1.e ≠ 0) : (rU r).2 = 0 := by
  unfold rU at *
  generalize (rTake 1 r).1 = r1 at *
  generalize (rTake 1 r).2 = l at *
  cases l with
  | nil => rfl
  | cons x t =>
    simp only [rUA] at *
    by_cases h8 : 8 < x
    · rw [if_pos h8]
    · rw [if_neg h8] at *
      have ht := rTake_e (n := x.toNat) (r := r1)
      generalize (rTake x.toNat r1).1 = r2 at *
      generalize (rTake x.toNat r1).2 = d at *
      cases d with
      | nil => rfl
      | cons c l =>
        simp only [rUB] at *
        by_cases hc : c = 0
        · rw [if_pos hc]
        · rw [if_neg hc] at h
          exact absurd (ht h) (by simp)
theorem rU_b8 {r : RS} (h8 : U8 r.b) (hl : r.b.length ≤ 1000000000) : U8 (rU r).1.b ∧ (rU r).1.b.length ≤ 1000000000 := by
  have h1 := rTake_b (n := 1) h8 hl
  have hf : ∀ (x : Int) (q : RS), (rFail x q).b = q.b := fun x q => by unfold rFail; split <;> rfl
  unfold rU
  generalize (rTake 1 r).1 = r1 at *
  generalize (rTake 1 r).2 = l at *
  cases l with
  | nil => exact ⟨h1.1, h1.2.1⟩
  | cons x t =>
    simp only [rUA]
    split
    · rw [hf]; exact ⟨h1.1, h1.2.1⟩
    · have h2 := rTake_b (n := x.toNat) h1.1 h1.2.1
      generalize (rTake x.toNat r1).2 = d at *
      cases d with
      | nil => exact ⟨h2.1, h2.2.1⟩
      | cons c l =>
        simp only [rUB]
        split
        · rw [hf]; exact ⟨h2.1, h2.2.1⟩
        · exact ⟨h2.1, h2.2.1⟩
theorem rB_b8 {m : Int} {r : RS} (h8 : U8 r.b) (hl : r.b.length ≤ 1000000000) : U8 (rB m r).1.b ∧ (rB m r).1.b.length ≤ r.b.length := by
  have hU := rU_b8 h8 hl
  have hle := rU_le r
  have hf : ∀ (x : Int) (q : RS), (rFail x q).b = q.b := fun x q => by unfold rFail; split <;> rfl
  unfold rB
  split
  · exact ⟨hU.1, hle⟩
  · split
    · rw [hf]; exact ⟨hU.1, hle⟩
    · have h2 := rTake_b (n := (rU r).2.toNat) hU.1 hU.2
      refine ⟨h2.1, Nat.le_trans ?_ hle⟩
      unfold rTake
      split
      · exact Nat.le_refl _
      · split <;> simp
theorem rB_val {m : Int} {r : RS} (h8 : U8 r.b) (hl : r.b.length ≤ 1000000000) : U8 (rB m r).2 ∧ (rB m r).2.length ≤ 1000000000 := by
  have hU : U8 (rU r).1.b ∧ (rU r).1.b.length ≤ 1000000000 := by
    have h1 := rTake_b (n := 1) h8 hl
    have hf : ∀ (x : Int) (q : RS), (rFail x q).b = q.b := fun x q => by unfold rFail; split <;> rfl
    unfold rU
    generalize (rTake 1 r).1 = r1 at *
    generalize (rTake 1 r).2 = l at *
    cases l with
    | nil => exact ⟨h1.1, h1.2.1⟩
    | cons x t =>
      simp only [rUA]
      split
      · rw [hf]; exact ⟨h1.1, h1.2.1⟩
      · have h2 := rTake_b (n := x.toNat) h1.1 h1.2.1
        generalize (rTake x.toNat r1).2 = d at *
        cases d with
        | nil => exact ⟨h2.1, h2.2.1⟩
        | cons c l =>
          simp only [rUB]
          split
          · rw [hf]; exact ⟨h2.1, h2.2.1⟩
          · exact ⟨h2.1, h2.2.1⟩
  unfold rB
  split
  · exact ⟨(by intro y hy; cases hy), by simp⟩
  · split
    · exact ⟨(by intro y hy; cases hy), by simp⟩
    · have h2 := rTake_b (n := (rU r).2.toNat) hU.1 hU.2
      exact ⟨h2.2.2.1, h2.2.2.2⟩
/-- Votes whose slots rise. -/
theorem getL_put {l : List Vt} (hv : ∀ v ∈ l, (0 ≤ v.slot ∧ v.slot < 18446744073709551616) ∧ (0 ≤ v.ballot ∧ v.ballot < 18446744073709551616) ∧ v.val.length ≤ 32768) :
    ∀ out, (out ++ l).Pairwise (fun a b => a.slot < b.slot) → getL l.length ⟨putVs l, 0⟩ out = (0, out ++ l) := by
  induction l with
  | nil => intro out _; simp [getL, putVs, rEnd]
  | cons v l ih =>
    intro out hp
    obtain ⟨⟨a0, a1⟩, ⟨b0, b1⟩, c0⟩ := hv v (by simp)
    have e1 : rU ⟨putVs (v :: l), 0⟩ = (⟨putU v.ballot ++ (putB v.val ++ putVs l), 0⟩, v.slot) := by rw [putVs_cons]; exact rU_app a0 a1 _
    have e2 : rU ⟨putU v.ballot ++ (putB v.val ++ putVs l), 0⟩ = (⟨putB v.val ++ putVs l, 0⟩, v.ballot) := rU_app b0 b1 _
    have e3 : rB (32768 : Nat) ⟨putB v.val ++ putVs l, 0⟩ = (⟨putVs l, 0⟩, v.val) := rB_app _ (by omega) (by omega) _
    have hn : notAbove out v.slot = false := by
      unfold notAbove
      cases hl : out.getLast? with
      | none => rfl
      | some x =>
        have hx := List.mem_of_getLast? hl
        have := (List.pairwise_append.1 hp).2.2 x hx v (by simp)
        simp; omega
    rw [List.length_cons, getL_four (by rw [e1]) (by rw [e1]; exact hn) (by rw [e1, e2, e3]), e1, e2, e3]
    simp only
    have hi := ih (fun x hx => hv x (by simp [hx])) (out ++ [v]) (by simpa using hp)
    rw [show (⟨v.slot, v.ballot, v.val⟩ : Vt) = v from rfl, hi]
    simp
theorem getV_put {l : List Vt} (hv : ∀ v ∈ l, (0 ≤ v.slot ∧ v.slot < 18446744073709551616) ∧ (0 ≤ v.ballot ∧ v.ballot < 18446744073709551616) ∧ v.val.length ≤ 32768) (hp : l.Pairwise (fun a b => a.slot < b.slot)) (hl : l.length < 1000000000) :
    getV (putV l) = (0, l) := by
  unfold getV putV
  rw [rU_app (by omega) (by omega)]
  simp only [Int.toNat_natCast]
  exact getL_put hv [] (by simpa using hp)
/-- Votes that are cut. -/
theorem getL_cut {l : List Vt} (hv : ∀ v ∈ l, (0 ≤ v.slot ∧ v.slot < 18446744073709551616) ∧ (0 ≤ v.ballot ∧ v.ballot < 18446744073709551616) ∧ v.val.length ≤ 32768) :
    ∀ out m, (out ++ l).Pairwise (fun a b => a.slot < b.slot) → m < (putVs l).length → (getL l.length ⟨(putVs l).take m, 0⟩ out).1 = 10 := by
  induction l with
  | nil => intro out m _ hm; simp [putVs] at hm
  | cons v l ih =>
    intro out m hp hm
    obtain ⟨⟨a0, a1⟩, ⟨b0, b1⟩, c0⟩ := hv v (by simp)
    rw [putVs_cons] at hm ⊢
    rw [List.length_cons]
    by_cases h1 : m < (putU v.slot).length
    · rw [take_app_lt (by omega), getL_one (by rw [rU_cut m h1]; decide)]
      exact rU_cut m h1
    · rw [take_app_ge (by omega)]
      have e1 := rU_app a0 a1 ((putU v.ballot ++ (putB v.val ++ putVs l)).take (m - (putU v.slot).length))
      have hn : notAbove out v.slot = false := by
        unfold notAbove
        cases hl : out.getLast? with
        | none => rfl
        | some x =>
          have hx := List.mem_of_getLast? hl
          have := (List.pairwise_append.1 hp).2.2 x hx v (by simp)
          simp; omega
      have hm2 : m - (putU v.slot).length < (putU v.ballot ++ (putB v.val ++ putVs l)).length := by rw [List.length_append] at hm; omega
      generalize m - (putU v.slot).length = m2 at *
      by_cases h2 : m2 < (putU v.ballot).length
      · rw [take_app_lt (a := putU v.ballot) (by omega)] at *
        have e2 : (rU ⟨(putU v.ballot).take m2, 0⟩).1.e = 10 := rU_cut m2 h2
        have e3 : rB (32768 : Nat) (rU ⟨(putU v.ballot).take m2, 0⟩).1 = ((rU ⟨(putU v.ballot).take m2, 0⟩).1, []) := rB_err (by rw [e2]; decide)
        rw [getL_three (by rw [e1]) (by rw [e1]; exact hn) (by rw [e1]; simp only; rw [e3, e2]; decide), e1]
        simp only
        rw [e3, e2]
      · rw [take_app_ge (a := putU v.ballot) (by omega)] at *
        have e2 := rU_app b0 b1 ((putB v.val ++ putVs l).take (m2 - (putU v.ballot).length))
        have hm3 : m2 - (putU v.ballot).length < (putB v.val ++ putVs l).length := by rw [List.length_append] at hm2; omega
        generalize m2 - (putU v.ballot).length = m3 at *
        by_cases h3 : m3 < (putB v.val).length
        · rw [take_app_lt (a := putB v.val) (by omega)] at *
          have e3 := rB_cut (l := v.val) (32768 : Nat) (by omega) (by omega) m3 h3
          rw [getL_three (by rw [e1]) (by rw [e1]; exact hn) (by rw [e1]; simp only; rw [e2]; simp only; rw [e3]; decide), e1]
          simp only
          rw [e2]
          exact e3
        · rw [take_app_ge (a := putB v.val) (by omega)] at *
          have e3 := rB_app (l := v.val) (32768 : Nat) (by omega) (by omega) ((putVs l).take (m3 - (putB v.val).length))
          have hm4 : m3 - (putB v.val).length < (putVs l).length := by rw [List.length_append] at hm3; omega
          rw [getL_four (by rw [e1]) (by rw [e1]; exact hn) (by rw [e1]; simp only; rw [e2]; simp only; rw [e3]), e1]
          simp only
          rw [e2]
          simp only
          rw [e3]
          simp only
          exact ih (fun x hx => hv x (by simp [hx])) (out ++ [⟨v.slot, v.ballot, v.val⟩]) _ (by simpa using hp) hm4
theorem getV_cut {l : List Vt} (hv : ∀ v ∈ l, (0 ≤ v.slot ∧ v.slot < 18446744073709551616) ∧ (0 ≤ v.ballot ∧ v.ballot < 18446744073709551616) ∧ v.val.length ≤ 32768) (hp : l.Pairwise (fun a b => a.slot < b.slot)) (hl : l.length < 1000000000) (m : Nat) (hm : m < (putV l).length) :
    (getV ((putV l).take m)).1 = 10 := by
  unfold getV putV at *
  by_cases h1 : m < (putU l.length).length
  · rw [take_app_lt (by omega)]
    have e := rU_cut m h1
    have h0 : (rU ⟨(putU (l.length : Int)).take m, 0⟩).2 = 0 := by
      unfold rU at *
      generalize (rTake 1 ⟨(putU (l.length : Int)).take m, 0⟩).1 = r1 at *
      generalize (rTake 1 ⟨(putU (l.length : Int)).take m, 0⟩).2 = l1 at *
      cases l1 with
      | nil => rfl
      | cons x t =>
        simp only [rUA] at *
        by_cases h8 : 8 < x
        · rw [if_pos h8]
        · rw [if_neg h8] at *
          generalize hq : rTake x.toNat r1 = q at *
          obtain ⟨q1, q2⟩ := q
          cases q2 with
          | nil => rfl
          | cons c d =>
            simp only [rUB] at *
            by_cases hc : c = 0
            · rw [if_pos hc]
            · rw [if_neg hc] at e
              have : q1.e = 0 := by
                unfold rTake at hq
                by_cases he : r1.e = 0
                · rw [if_neg (by simp [he])] at hq
                  split at hq
                  · have := congrArg Prod.snd hq; cases this
                  · exact (congrArg (fun q : RS × List Int => q.1.e) hq).symm
                · rw [if_pos he] at hq; have := congrArg Prod.snd hq; cases this
              rw [this] at e; cases e
    rw [h0]
    show (getL 0 _ []).1 = 10
    unfold getL rEnd
    rw [e]
    simp
  · rw [take_app_ge (by omega), rU_app (by omega) (by omega)]
    simp only [Int.toNat_natCast]
    exact getL_cut hv [] _ (by simpa using hp) (by rw [List.length_append] at hm; omega)
end Go.Proofs.YtgmdedkingampaaGreat

namespace Go.Proofs.YtgmdedkingampaaGreat
open Go.ChangeShapes Go.WideShapes Go.ChangeAt Go.RowKit Go.Maps
set_option maxRecDepth 100000

theorem putVs_take {hs : List Vt} {k : Nat} {s : Vt} (h : hs[k]? = some s) : putVs (hs.take (k + 1)) = putVs (hs.take k) ++ putU s.slot ++ putU s.ballot ++ putB s.val := by
  obtain ⟨q1, q2⟩ := List.getElem?_eq_some_iff.1 h
  rw [List.take_succ_eq_append_getElem q1, q2, putVs_snoc]
  simp [List.append_assoc]
set_option maxHeartbeats 2000000 in
theorem put_any {w : World} {v : Value} {hs : List Vt} (h : VtL w v hs) (hu : ∀ s ∈ hs, U1 s.slot ∧ U1 s.ballot) (hl : hs.length ≤ 1000) (hm : ∀ s ∈ hs, s.val.length ≤ 100000) :
    Calls Tryz.prog 88 #[v] w fun e w' => ∃ ao c, e = .returned (.slice ao (putV hs).length c) ∧ w'.ownsRow w.heap.size 5 1 (.slice ao (putV hs).length c) (putV hs).length (u8s (putV hs)) ∧ Below w.heap.size w w' := by
  obtain ⟨ao, c, rfl, h1, h2, hx⟩ := h
  have HX := Lib.hid hx
  have HU := Lib.hid hu
  have HM := Lib.hid hm
  have hwl : IntKind.u64.wrap (hs.length : Int) = (hs.length : Int) := IntWalk.u64_in _ (by omega)
  have hpl := putU_len (hs.length : Int)
  have hps := sz_le (hs.length : Int)
  have HP := Lib.hid hpl
  clear hx hu hm hpl
  go_enter Tryz.func88, Tryz.ntmps88
  go_wp2_with fail
  refine ((SepW.nil (Below.refl w.heap.size w)).wrNew).mono ?_
  rintro e w1 ⟨b0, D0, rfl, hs1⟩
  have HS1 := Lib.hid hs1
  clear hs1
  go_wp2_with fail
  refine (HS1.out.wrUint 0 rfl (by constructor <;> omega) (by simp)).mono ?_
  rintro e w2 ⟨rfl, D1, hs2⟩
  have HS2 : Hid (SepW w w2 [obWr (.pointer (some ⟨b0, 0, none⟩)) D1 (putU hs.length)]) := Lib.hid hs2
  clear hs2 HS1 hwl
  go_wp2_with fail
  go_loopw [14] (fun i wr => ∃ (k : Nat) (D' : Nat → Prop), k ≤ hs.length ∧ i = .int .i64 k ∧ SepW w wr [obWr (.pointer (some ⟨b0, 0, none⟩)) D' (putU hs.length ++ putVs (hs.take k))]) (fun i _ => hs.length - (intOf i).toNat)
  case atStart => exact ⟨0, D1, by omega, rfl, by simpa [putVs_nil] using HS2.out⟩
  case round =>
    clear HS2
    obtain ⟨k, D', hk, rfl, hsep⟩ := hrel
    have HSk := Lib.hid hsep
    clear hsep
    have hvl : (putVs (hs.take k)).length ≤ 200000000 := by
      have := putVs_len (l := hs.take k) (M := 100000) (fun s hs' => HM.out s (List.mem_of_mem_take hs'))
      have h3 := List.length_take_le k hs
      have h4 : (hs.take k).length * (27 + 100000) ≤ 1000 * (27 + 100000) := Nat.mul_le_mul_right _ (by omega)
      omega
    have hacl : (putU (hs.length : Int) ++ putVs (hs.take k)).length ≤ 200000009 := by rw [List.length_append, HP.out]; omega
    by_cases hlt : k < hs.length
    · have hki : (k : Int) < (hs.length : Int) := by omega
      obtain ⟨s, hsk⟩ : ∃ s, hs[k]? = some s := ⟨_, List.getElem?_eq_getElem hlt⟩
      obtain ⟨a, sv, rfl, c0, c1, c2, hsl⟩ := HX.out k s hsk
      obtain ⟨so, sc, rfl, g1, g2⟩ := hsl.form
      simp only [List.length_map] at c2 hsl g1 g2
      obtain ⟨us, ub⟩ := HU.out s (List.mem_of_getElem? hsk)
      have hvm := HM.out s (List.mem_of_getElem? hsk)
      have e0 := (HSk.out.below.cell (World.block_lt_of_cell? _ _ c0)).trans c0
      have e1 := (HSk.out.below.cell (World.block_lt_of_cell? _ _ c1)).trans c1
      have e2 := (HSk.out.below.cell (World.block_lt_of_cell? _ _ c2)).trans c2
      have HT := Lib.hid (putVs_take hsk)
      have HSl := Lib.hid hsl
      have HUs := Lib.hid us
      have HUb := Lib.hid ub
      have HS3 := Lib.hid (HSk.out.newBlk #[.int .u64 s.slot, .int .u64 s.ballot, .slice so s.val.length sc] 80)
      have HAc : Hid (putU (hs.length : Int) ++ putVs (hs.take (k + 1)) = putU (hs.length : Int) ++ putVs (hs.take k) ++ putU s.slot ++ putU s.ballot ++ putB s.val) := Lib.hid (by rw [HT.out]; simp [List.append_assoc])
      generalize putU (hs.length : Int) ++ putVs (hs.take k) = acc at *
      clear hsk c0 c1 c2 hsl us ub HSk
      obtain ⟨x0, _⟩ := HS3.out.blk 0 rfl 0 _ rfl
      obtain ⟨x1, _⟩ := HS3.out.blk 0 rfl 1 _ rfl
      obtain ⟨x2, _⟩ := HS3.out.blk 0 rfl 2 _ rfl
      go_wp2_with fail
      refine (HS3.out.wrUint 1 rfl HUs.out (by omega)).mono ?_
      rintro e w4 ⟨rfl, D4, hs4⟩
      have HS4 : Hid (SepW w w4 [obBlk wr.heap.size (.cells #[.int .u64 s.slot, .int .u64 s.ballot, .slice so s.val.length sc] 80), obWr (.pointer (some ⟨b0, 0, none⟩)) D4 (acc ++ putU s.slot)]) := Lib.hid hs4
      clear hs4 HS3 x0 x1 x2
      obtain ⟨x1, _⟩ := HS4.out.blk 0 rfl 1 _ rfl
      obtain ⟨x2, _⟩ := HS4.out.blk 0 rfl 2 _ rfl
      have q1 : (acc ++ putU s.slot).length ≤ 200000018 := by rw [List.length_append, putU_len]; have := sz_le s.slot; omega
      go_wp2_with fail
      refine (HS4.out.wrUint 1 rfl HUb.out (by omega)).mono ?_
      rintro e w5 ⟨rfl, D5, hs5⟩
      have HS5 : Hid (SepW w w5 [obBlk wr.heap.size (.cells #[.int .u64 s.slot, .int .u64 s.ballot, .slice so s.val.length sc] 80), obWr (.pointer (some ⟨b0, 0, none⟩)) D5 (acc ++ putU s.slot ++ putU s.ballot)]) := Lib.hid hs5
      clear hs5 HS4 x1 x2
      obtain ⟨x2, _⟩ := HS5.out.blk 0 rfl 2 _ rfl
      have q2 : (acc ++ putU s.slot ++ putU s.ballot).length ≤ 200000027 := by rw [List.length_append, putU_len]; have := sz_le s.ballot; omega
      go_wp2_with fail
      refine (HS5.out.wrBytes 1 rfl (HSl.out.below HS5.out.below (Nat.le_refl _)) (HS5.out.offArg 1 rfl HSl.out) (by omega)).mono ?_
      rintro e w6 ⟨rfl, D6, hs6⟩
      have HS6 : Hid (SepW w w6 [obWr (.pointer (some ⟨b0, 0, none⟩)) D6 (putU (hs.length : Int) ++ putVs (hs.take (k + 1)))]) := Lib.hid (by rw [HAc.out]; exact hs6.sub (List.sublist_cons_self _ _))
      clear hs6 HS5 x2
      go_wp2_with fail
      go_roundw
      case rel => exact ⟨k + 1, D6, by omega, by go_num, HS6.out⟩
      case measure => simp [intOf]; omega
    · have hkl : k = hs.length := by omega
      have hkd : decide ((k : Int) < (hs.length : Int)) = false := decide_eq_false (by omega)
      have HS9 : Hid (SepW w wr [obWr (.pointer (some ⟨b0, 0, none⟩)) D' (putV hs)]) := Lib.hid (by have := HSk.out; rw [hkl, List.take_length] at this; exact this)
      have hvl9 : (putV hs).length ≤ 200000009 := by rw [hkl, List.take_length] at hacl; exact hacl
      clear hkl HSk hacl hvl
      go_wp2_with fail
      refine (HS9.out.wrOut 0 rfl (by omega)).mono ?_
      rintro e w4 ⟨v', rfl, ho, hb⟩
      obtain ⟨ko, kc, rfl, _, _⟩ := own_form ho
      have HO := Lib.hid ho
      have HB := Lib.hid hb
      clear ho hb
      go_wp2_with fail
      go_ret
      exact ⟨ko, kc, rfl, HO.out.weaken HS9.out.below.size, HS9.out.below.trans (HB.out.mono HS9.out.below.size)⟩
end Go.Proofs.YtgmdedkingampaaGreat

namespace Go.Proofs.YtgmdedkingampaaGreat
open Go.ChangeShapes Go.WideShapes Go.ChangeAt Go.RowKit Go.Maps
set_option maxRecDepth 100000

/-- What 'Get' comes to. -/
def RetGet (q : Int × List Vt) (w : World) (e : Ending) (w' : World) : Prop :=
  ∃ ao c vs, e = .returned (.tuple #[.slice ao q.2.length c, .int .i64 q.1]) ∧ SepW w w' [obVts (.slice ao q.2.length c) 80 vs q.2]
theorem RetGet.bad {w w' : World} {os : List Ob} {q : Int × List Vt} {x : Int} (h : SepW w w' os) (hq : q = (x, [])) : RetGet q w (.returned (.tuple #[.slice none 0 0, .int .i64 x])) w' := by
  subst hq
  refine ⟨none, 0, [], rfl, ((SepW.nil h.below).new (Below.refl _ _) (obVts_good ..) ⟨World.ownsRow_nil _ _ _ _, VtC.nil _, by intro u hu; cases hu⟩ (fun k hk => ?_))⟩
  rcases hk with hk | ⟨u, hu, _⟩
  · cases hk
  · cases hu
theorem notAbove_nil (x : Int) : notAbove [] x = false := rfl
theorem notAbove_last {out : List Vt} {v : Vt} (h : out[out.length - 1]? = some v) (x : Int) : notAbove out x = decide (x ≤ v.slot) := by
  unfold notAbove
  rw [List.getLast?_eq_getElem?, h]
set_option maxHeartbeats 4000000 in
theorem get_any {w : World} {sv : Value} {xs : List Int} (h : SlR w sv (u8s xs)) (h8 : U8 xs) (hl : xs.length ≤ 1000000) :
    Calls Tryz.prog 90 #[sv] w (RetGet (getV xs) w) := by
  have HSv := Lib.hid h
  obtain ⟨so, sc, rfl, hsc1, hsc2⟩ := h.form
  simp only [List.length_map] at HSv hsc1 ⊢
  obtain ⟨i0, hi, hz0, hz1, hz2⟩ := info_parts Tryz.voteInfo
  obtain ⟨q, hq⟩ : ∃ q, getV xs = q := ⟨_, rfl⟩
  rw [hq]
  have HQ0 := Lib.hid hq
  have H8 := Lib.hid h8
  clear h h8 hq
  go_enter Tryz.func90, Tryz.ntmps90
  go_wp2_with fail
  refine ((SepW.nil (Below.refl w.heap.size w)).rdNew HSv.out H8.out (by omega)).mono ?_
  rintro e w1 ⟨b0, D, rfl, hs1⟩
  have HS1 := Lib.hid hs1
  clear hs1
  go_wp2_with fail
  refine (HS1.out.rdUint 0 rfl).mono ?_
  rintro e w2 ⟨rfl, hs2⟩
  have HQ1 : Hid (getL (rU ⟨xs, 0⟩).2.toNat (rU ⟨xs, 0⟩).1 [] = q) := Lib.hid HQ0.out
  obtain ⟨hn0, hn1⟩ := rU_bd (r := ⟨xs, 0⟩) H8.out (by show xs.length ≤ 1000000000; omega)
  have hlb : (rU ⟨xs, 0⟩).1.b.length ≤ xs.length := rU_le ⟨xs, 0⟩
  have HS2 : Hid (SepW w w2 [obRd (.pointer (some ⟨b0, 0, none⟩)) D (rU ⟨xs, 0⟩).1]) := Lib.hid hs2
  clear hs2 HS1 HQ0
  generalize (rU ⟨xs, 0⟩).1 = r0 at *
  generalize (rU ⟨xs, 0⟩).2 = n0 at *
  obtain ⟨n, rfl⟩ := Int.eq_ofNat_of_zero_le hn0
  rw [Int.toNat_natCast] at HQ1
  have HU0 : Hid (U1 (n : Int)) := Lib.hid ⟨hn0, hn1⟩
  clear hn0 hn1
  have HS3 : Hid (SepW w w2 [obVts (.slice none 0 0) 80 [] [], obRd (.pointer (some ⟨b0, 0, none⟩)) D r0]) := Lib.hid (HS2.out.new (Below.refl _ _) (obVts_good ..) ⟨World.ownsRow_nil _ _ _ _, VtC.nil _, by intro u hu; cases hu⟩ (fun k hk => by
    rcases hk with hk | ⟨u, hu, _⟩
    · cases hk
    · cases hu))
  clear HS2
  go_wp2_with fail
  go_loopw [6, 5] (fun nv ov wr => ∃ (m : Nat) (out : List Vt) (r : RS) (ao : Option Addr) (c : Nat) (vs : List Value), nv = .int .u64 m ∧ ov = .slice ao out.length c ∧ U1 (m : Int) ∧ SepW w wr [obVts (.slice ao out.length c) 80 vs out, obRd (.pointer (some ⟨b0, 0, none⟩)) D r] ∧ getL m r out = q ∧ out.length + r.b.length ≤ xs.length) (fun nv _ _ => (intOf nv).toNat)
  case atStart => exact ⟨n, [], r0, none, 0, [], rfl, rfl, HU0.out, HS3.out, HQ1.out, by simpa using hlb⟩
  case round =>
    clear HS3 HQ1 HU0
    obtain ⟨m, out, r, ao, c, vs, rfl, rfl, hu, hsep, hq, hlen⟩ := hrel
    have HSk := Lib.hid hsep
    have HQ := Lib.hid hq
    have HU := Lib.hid hu
    clear hsep hq hu
    cases m with
    | zero =>
      have hd : decide ((0 : Int) < ((0 : Nat) : Int)) = false := by simp
      have hq2 : q = if rEnd r ≠ 0 then (rEnd r, []) else (0, out) := by rw [← HQ.out]; rfl
      have HQ2 := Lib.hid hq2
      clear hq2
      go_wp2_with fail
      refine (HSk.out.rdEnd 1 rfl).mono ?_
      rintro e w4 ⟨rfl, rfl⟩
      by_cases he : rEnd r = 0
      · have hb : (rEnd r != 0) = false := by simp [he]
        have hq3 := HQ2.out
        rw [if_neg (by simp [he])] at hq3
        have HQ3 := Lib.hid hq3
        clear hq3 he
        go_wp2_with fail
        refine bodyPost_ret (v := .tuple #[.slice ao out.length c, .int .i64 0]) (by simp [results, Tryz.results90, go_sem]) rfl ?_
        rw [HQ3.out]
        exact ⟨ao, c, vs, rfl, HSk.out.sub (List.sublist_append_left [_] _)⟩
      · have hb : (rEnd r != 0) = true := by simp [he]
        have hq3 := HQ2.out
        rw [if_pos he] at hq3
        have HQ3 := Lib.hid hq3
        clear hq3 he
        go_wp2_with fail
        refine bodyPost_ret (v := .tuple #[.slice none 0 0, .int .i64 (rEnd r)]) (by simp [results, Tryz.results90, go_sem]) rfl ?_
        exact RetGet.bad HSk.out HQ3.out
    | succ m =>
      have hd : decide ((0 : Int) < ((m + 1 : Nat) : Int)) = true := decide_eq_true (by omega)
      have hd2 : (0 : Int) < ((m + 1 : Nat) : Int) := by omega
      go_wp2_with fail
      refine (HSk.out.rdUint 1 rfl).mono ?_
      rintro e w4 ⟨rfl, hs4⟩
      obtain ⟨a, ha⟩ : ∃ a, rU r = a := ⟨_, rfl⟩
      rw [ha] at hs4 ⊢
      have HA := Lib.hid ha
      have HS4 : Hid (SepW w (w4.alloc (.cells #[.int .u64 a.2, .int .u64 0, .slice none 0 0] 80)) [obBlk w4.heap.size (.cells #[.int .u64 a.2, .int .u64 0, .slice none 0 0] 80), obVts (.slice ao out.length c) 80 vs out, obRd (.pointer (some ⟨b0, 0, none⟩)) D a.1]) := Lib.hid (hs4.newBlk #[.int .u64 a.2, .int .u64 0, .slice none 0 0] 80)
      clear hs4 ha HSk
      obtain ⟨a1, a2⟩ := a
      simp only at HS4 ⊢
      go_wp2_with fail
      refine (HS4.out.rdErr 2 rfl).mono ?_
      rintro e w5 ⟨rfl, rfl⟩
      by_cases he : a1.e = 0
      · have hb : (a1.e != 0) = false := by simp [he]
        have HE := Lib.hid he
        clear he
        by_cases hna : notAbove out a2 = true
        · obtain ⟨v, hv⟩ : ∃ v, out[out.length - 1]? = some v := by
            cases hg : out[out.length - 1]? with
            | none => rw [notAbove, List.getLast?_eq_getElem?, hg] at hna; cases hna
            | some v => exact ⟨v, rfl⟩
          have hpos : 0 < out.length := by have := (List.getElem?_eq_some_iff.1 hv).1; omega
          rw [notAbove_last hv, decide_eq_true_eq] at hna
          have hq3 : q = (11, []) := by
            rw [← HQ.out]
            exact getL_two (by rw [HA.out]; exact HE.out) (by rw [HA.out, notAbove_last hv]; exact decide_eq_true hna)
          have HQ3 := Lib.hid hq3
          clear hq3
          obtain ⟨_, _, e0, hl1, hl2, hvx⟩ := HS4.out.vtL 1 rfl
          cases e0
          obtain ⟨oa, _, rfl, c0, _⟩ := hvx _ _ hv
          obtain ⟨x0, _⟩ := HS4.out.blk 0 rfl 0 _ rfl
          have hpi : (0 : Int) < (out.length : Int) := by omega
          have hw1 : IntKind.i64.wrap ((out.length : Int) - 1) = (out.length : Int) - 1 := IntWalk.i64_in _ (by omega)
          have hw2 : 0 ≤ (out.length : Int) - 1 := by omega
          have hw3 : ((out.length : Int) - 1).toNat = out.length - 1 := by omega
          have hw4 : (out.length : Int) - 1 < (out.length : Int) := by omega
          have hgd : decide (a2 ≤ v.slot) = true := decide_eq_true hna
          clear hvx hv hna
          go_wp2_with fail
          go_quiet (fail)
          go_wp2_with fail
          refine bodyPost_ret (v := .tuple #[.slice none 0 0, .int .i64 11]) (by simp [results, Tryz.results90, go_sem]) rfl ?_
          exact RetGet.bad (HS4.out.drewN _) HQ3.out
        · have hnf : notAbove out a2 = false := by simpa using hna
          have HNf := Lib.hid hnf
          have hor : out.length = 0 ∨ ∃ v, out[out.length - 1]? = some v ∧ ¬ a2 ≤ v.slot := by
            by_cases h0 : out.length = 0
            · exact Or.inl h0
            · have hv : out[out.length - 1]? = some out[out.length - 1] := List.getElem?_eq_getElem (by omega)
              exact Or.inr ⟨_, hv, by rw [notAbove_last hv] at hnf; simpa using hnf⟩
          clear hna hnf
          rcases hor with h0 | ⟨v, hv, hna⟩
          · have hpi : decide ((0 : Int) < (out.length : Int)) = false := decide_eq_false (by omega)
            have hpn : decide (0 < out.length) = false := decide_eq_false (by omega)
            clear h0
            go_wp2_with fail
            go_quiet (fail)
            clear hpi hpn
            go_wp2_with fail
            refine ((HS4.out.drewN _).rdUint 2 rfl).mono ?_
            rintro e w6 ⟨rfl, hs6⟩
            have hw1 : IntKind.u64.wrap (((m + 1 : Nat) : Int) - 1) = (m : Int) := by
              rw [show ((m + 1 : Nat) : Int) - 1 = (m : Int) by omega]
              have := HU.out
              unfold U1 at this
              exact IntWalk.u64_in _ (by omega)
            have HW1 := Lib.hid hw1
            have HWm : Hid (IntKind.u64.wrap (m : Int) = (m : Int)) := Lib.hid (by rw [show ((m + 1 : Nat) : Int) - 1 = (m : Int) by omega] at hw1; exact hw1)
            obtain ⟨p, hp⟩ : ∃ p, rU a1 = p := ⟨_, rfl⟩
            rw [hp] at hs6 ⊢
            have HP := Lib.hid hp
            obtain ⟨p1, p2⟩ := p
            simp only at hs6 ⊢
            have hs65 := hs6.blkSet 0 rfl 1 (.int .u64 p2)
            have HS6 : Hid (SepW w (w6.setCell ⟨w4.heap.size, 1, none⟩ (.int .u64 p2)) [obBlk w4.heap.size (.cells #[.int .u64 a2, .int .u64 p2, .slice none 0 0] 80), obVts (.slice ao out.length c) 80 vs out, obRd (.pointer (some ⟨b0, 0, none⟩)) D p1]) := Lib.hid (by simpa using hs65)
            obtain ⟨x1, z1⟩ := hs6.blk 0 rfl 1 _ rfl
            clear hs6 hs65 hp hw1
            go_wp2_with fail
            refine (HS6.out.rdBytes 2 rfl (most := 32768) (by decide)).mono ?_
            rintro e w7 ⟨bo, bc, rfl, hs7⟩
            obtain ⟨k, hk⟩ : ∃ k, rB (32768 : Nat) p1 = k := ⟨_, rfl⟩
            rw [hk] at hs7 ⊢
            have HK := Lib.hid hk
            obtain ⟨k1, k2⟩ := k
            simp only at hs7 ⊢
            have hs75 := hs7.blkSet 1 rfl 2 (.slice bo k2.length bc)
            have HS7 : Hid (SepW w (w7.setCell ⟨w4.heap.size, 2, none⟩ (.slice bo k2.length bc)) [obRow (.slice bo k2.length bc) 5 1 k2.length (u8s k2), obBlk w4.heap.size (.cells #[.int .u64 a2, .int .u64 p2, .slice bo k2.length bc] 80), obVts (.slice ao out.length c) 80 vs out, obRd (.pointer (some ⟨b0, 0, none⟩)) D k1]) := Lib.hid (by simpa using hs75)
            obtain ⟨x2, z2⟩ := hs7.blk 1 rfl 2 _ rfl
            clear hs7 hs75 hk x1 z1 HS6 HS4
            go_wp2_with fail
            refine (HS7.out.rdErr 3 rfl).mono ?_
            rintro e w8 ⟨rfl, rfl⟩
            by_cases hke : k1.e = 0
            · have hb2 : (k1.e != 0) = false := by simp [hke]
              have hq3 : getL m k1 (out ++ [⟨a2, p2, k2⟩]) = q := by
                rw [← HQ.out, getL_four (by rw [HA.out]; exact HE.out) (by rw [HA.out]; exact HNf.out) (by rw [HA.out]; simp only; rw [HP.out]; simp only; rw [HK.out]; exact hke), HA.out]
                simp only
                rw [HP.out]
                simp only
                rw [HK.out]
              have hlen2 : (out ++ [(⟨a2, p2, k2⟩ : Vt)]).length + k1.b.length ≤ xs.length := by
                have h1 := rU_less (r := r) (by rw [HA.out]; exact HE.out)
                have h2 := (rB_less (m := (32768 : Nat)) (r := p1) (by rw [HK.out]; exact hke)).1
                have h3 := rU_le a1
                rw [HA.out] at h1
                rw [HP.out] at h3
                rw [HK.out] at h2
                simp only at h1 h2 h3
                simp; omega
              have HQ3 := Lib.hid hq3
              have HL2 := Lib.hid hlen2
              have hs9 : SepW w _ _ := ⟨HS7.out.sep.front 2 rfl, HS7.out.below⟩
              have HS9 := Lib.hid hs9
              have HO9 := Lib.hid ((hs9.get 0 rfl : (obVts (.slice ao out.length c) 80 vs out).inv _).1)
              have HU9 : Hid (∀ u ∈ (#[.int .u64 a2, .int .u64 p2, .slice bo k2.length bc] : Array Value).toList, u.oneCell' = true) := Lib.hid (by intro u hu; simp at hu; rcases hu with rfl | rfl | rfl <;> rfl)
              have hk40 : out.length ≤ 1099511627776 := by omega
              have hu2 : U1 (m : Int) := by have := HU.out; unfold U1 at *; constructor <;> omega
              have HU2 := Lib.hid hu2
              obtain ⟨y0, _⟩ := HS7.out.blk 1 rfl 0 _ rfl
              obtain ⟨y1, _⟩ := HS7.out.blk 1 rfl 1 _ rfl
              obtain ⟨y2, _⟩ := HS7.out.blk 1 rfl 2 _ rfl
              clear hke hq3 hlen2 hs9 hu2 x2 z2
              generalize w7.setCell ⟨w4.heap.size, 2, none⟩ (.slice bo k2.length bc) = w8 at *
              have hwu := HW1.out
              go_wp2_with (first
                | (at_builtin; (refine wpList_appS rfl (.tmp 54) (.tmp 56) 90 rfl 0 80 i0 _ 3 40 Tryz.underlying90 hi hz0 hz1 hz2 rfl (by decide) (by decide) rfl rfl (by simp) rfl HO9.out HU9.out hk40 (Nat.zero_le _) ?_)
                   intro g7 cap7 w9 hown7 hg7 hor7
                   have HOwn7 := Lib.hid hown7
                   have HG7 := Lib.hid hg7
                   have HOr7 := Lib.hid hor7
                   clear hown7 hg7 hor7)
                | fail)
              obtain ⟨hsA, hkA⟩ := HS9.out.sep.vtApp (g := g7) (cap := cap7) (s := (⟨a2, p2, k2⟩ : Vt)) HG7.out HOr7.out HOwn7.out
              have HSA : Hid (SepW w w9 [obVts (.slice (some ⟨g7, 0, none⟩) (out ++ [(⟨a2, p2, k2⟩ : Vt)]).length cap7) 80 (vs ++ [.int .u64 a2, .int .u64 p2, .slice bo k2.length bc]) (out ++ [⟨a2, p2, k2⟩]), obRd (.pointer (some ⟨b0, 0, none⟩)) D k1]) := Lib.hid (by
                rw [List.length_append, List.length_singleton]
                exact (SepW.sub ⟨hsA, HS9.out.sep.belowAt HS9.out.below 0 rfl (hkA.mono (fun q _ hq => Or.inl hq))⟩ ((List.sublist_cons_self _ _).cons_cons _)))
              clear hsA hkA hwu
              go_roundw
              case rel => exact ⟨m, out ++ [⟨a2, p2, k2⟩], k1, _, _, _, by rw [HWm.out], by rw [List.length_append]; rfl, HU2.out, HSA.out, HQ3.out, HL2.out⟩
              case measure => simp [intOf, HWm.out]
            · have hb2 : (k1.e != 0) = true := by simp [hke]
              have hq3 : q = (k1.e, []) := by
                rw [← HQ.out, getL_three (by rw [HA.out]; exact HE.out) (by rw [HA.out]; exact HNf.out) (by rw [HA.out]; simp only; rw [HP.out]; simp only; rw [HK.out]; exact hke), HA.out]
                simp only
                rw [HP.out]
                simp only
                rw [HK.out]
              have HQ3 := Lib.hid hq3
              clear hq3 hke
              go_wp2_with fail
              refine bodyPost_ret (v := .tuple #[.slice none 0 0, .int .i64 k1.e]) (by simp [results, Tryz.results90, go_sem]) rfl ?_
              exact RetGet.bad HS7.out HQ3.out
          · have hpos : 0 < out.length := by have := (List.getElem?_eq_some_iff.1 hv).1; omega
            obtain ⟨_, _, e0, hl1, hl2, hvx⟩ := HS4.out.vtL 1 rfl
            cases e0
            obtain ⟨oa, _, rfl, c0, _⟩ := hvx _ _ hv
            obtain ⟨x0, _⟩ := HS4.out.blk 0 rfl 0 _ rfl
            have hpi : (0 : Int) < (out.length : Int) := by omega
            have hw1 : IntKind.i64.wrap ((out.length : Int) - 1) = (out.length : Int) - 1 := IntWalk.i64_in _ (by omega)
            have hw2 : 0 ≤ (out.length : Int) - 1 := by omega
            have hw3 : ((out.length : Int) - 1).toNat = out.length - 1 := by omega
            have hw4 : (out.length : Int) - 1 < (out.length : Int) := by omega
            have hgd : decide (a2 ≤ v.slot) = false := decide_eq_false hna
            clear hvx hv hna
            go_wp2_with fail
            go_quiet (fail)
            clear hpi hw1 hw2 hw3 hw4 hgd c0 x0 hl1 hl2 hpos
            generalize some oa = ao at *
            go_wp2_with fail
            refine ((HS4.out.drewN _).rdUint 2 rfl).mono ?_
            rintro e w6 ⟨rfl, hs6⟩
            have hw1 : IntKind.u64.wrap (((m + 1 : Nat) : Int) - 1) = (m : Int) := by
              rw [show ((m + 1 : Nat) : Int) - 1 = (m : Int) by omega]
              have := HU.out
              unfold U1 at this
              exact IntWalk.u64_in _ (by omega)
            have HW1 := Lib.hid hw1
            have HWm : Hid (IntKind.u64.wrap (m : Int) = (m : Int)) := Lib.hid (by rw [show ((m + 1 : Nat) : Int) - 1 = (m : Int) by omega] at hw1; exact hw1)
            obtain ⟨p, hp⟩ : ∃ p, rU a1 = p := ⟨_, rfl⟩
            rw [hp] at hs6 ⊢
            have HP := Lib.hid hp
            obtain ⟨p1, p2⟩ := p
            simp only at hs6 ⊢
            have hs65 := hs6.blkSet 0 rfl 1 (.int .u64 p2)
            have HS6 : Hid (SepW w (w6.setCell ⟨w4.heap.size, 1, none⟩ (.int .u64 p2)) [obBlk w4.heap.size (.cells #[.int .u64 a2, .int .u64 p2, .slice none 0 0] 80), obVts (.slice ao out.length c) 80 vs out, obRd (.pointer (some ⟨b0, 0, none⟩)) D p1]) := Lib.hid (by simpa using hs65)
            obtain ⟨x1, z1⟩ := hs6.blk 0 rfl 1 _ rfl
            clear hs6 hs65 hp hw1
            go_wp2_with fail
            refine (HS6.out.rdBytes 2 rfl (most := 32768) (by decide)).mono ?_
            rintro e w7 ⟨bo, bc, rfl, hs7⟩
            obtain ⟨k, hk⟩ : ∃ k, rB (32768 : Nat) p1 = k := ⟨_, rfl⟩
            rw [hk] at hs7 ⊢
            have HK := Lib.hid hk
            obtain ⟨k1, k2⟩ := k
            simp only at hs7 ⊢
            have hs75 := hs7.blkSet 1 rfl 2 (.slice bo k2.length bc)
            have HS7 : Hid (SepW w (w7.setCell ⟨w4.heap.size, 2, none⟩ (.slice bo k2.length bc)) [obRow (.slice bo k2.length bc) 5 1 k2.length (u8s k2), obBlk w4.heap.size (.cells #[.int .u64 a2, .int .u64 p2, .slice bo k2.length bc] 80), obVts (.slice ao out.length c) 80 vs out, obRd (.pointer (some ⟨b0, 0, none⟩)) D k1]) := Lib.hid (by simpa using hs75)
            obtain ⟨x2, z2⟩ := hs7.blk 1 rfl 2 _ rfl
            clear hs7 hs75 hk x1 z1 HS6 HS4
            go_wp2_with fail
            refine (HS7.out.rdErr 3 rfl).mono ?_
            rintro e w8 ⟨rfl, rfl⟩
            by_cases hke : k1.e = 0
            · have hb2 : (k1.e != 0) = false := by simp [hke]
              have hq3 : getL m k1 (out ++ [⟨a2, p2, k2⟩]) = q := by
                rw [← HQ.out, getL_four (by rw [HA.out]; exact HE.out) (by rw [HA.out]; exact HNf.out) (by rw [HA.out]; simp only; rw [HP.out]; simp only; rw [HK.out]; exact hke), HA.out]
                simp only
                rw [HP.out]
                simp only
                rw [HK.out]
              have hlen2 : (out ++ [(⟨a2, p2, k2⟩ : Vt)]).length + k1.b.length ≤ xs.length := by
                have h1 := rU_less (r := r) (by rw [HA.out]; exact HE.out)
                have h2 := (rB_less (m := (32768 : Nat)) (r := p1) (by rw [HK.out]; exact hke)).1
                have h3 := rU_le a1
                rw [HA.out] at h1
                rw [HP.out] at h3
                rw [HK.out] at h2
                simp only at h1 h2 h3
                simp; omega
              have HQ3 := Lib.hid hq3
              have HL2 := Lib.hid hlen2
              have hs9 : SepW w _ _ := ⟨HS7.out.sep.front 2 rfl, HS7.out.below⟩
              have HS9 := Lib.hid hs9
              have HO9 := Lib.hid ((hs9.get 0 rfl : (obVts (.slice ao out.length c) 80 vs out).inv _).1)
              have HU9 : Hid (∀ u ∈ (#[.int .u64 a2, .int .u64 p2, .slice bo k2.length bc] : Array Value).toList, u.oneCell' = true) := Lib.hid (by intro u hu; simp at hu; rcases hu with rfl | rfl | rfl <;> rfl)
              have hk40 : out.length ≤ 1099511627776 := by omega
              have hu2 : U1 (m : Int) := by have := HU.out; unfold U1 at *; constructor <;> omega
              have HU2 := Lib.hid hu2
              obtain ⟨y0, _⟩ := HS7.out.blk 1 rfl 0 _ rfl
              obtain ⟨y1, _⟩ := HS7.out.blk 1 rfl 1 _ rfl
              obtain ⟨y2, _⟩ := HS7.out.blk 1 rfl 2 _ rfl
              clear hke hq3 hlen2 hs9 hu2 x2 z2
              generalize w7.setCell ⟨w4.heap.size, 2, none⟩ (.slice bo k2.length bc) = w8 at *
              have hwu := HW1.out
              go_wp2_with (first
                | (at_builtin; (refine wpList_appS rfl (.tmp 54) (.tmp 56) 90 rfl 0 80 i0 _ 3 40 Tryz.underlying90 hi hz0 hz1 hz2 rfl (by decide) (by decide) rfl rfl (by simp) rfl HO9.out HU9.out hk40 (Nat.zero_le _) ?_)
                   intro g7 cap7 w9 hown7 hg7 hor7
                   have HOwn7 := Lib.hid hown7
                   have HG7 := Lib.hid hg7
                   have HOr7 := Lib.hid hor7
                   clear hown7 hg7 hor7)
                | fail)
              obtain ⟨hsA, hkA⟩ := HS9.out.sep.vtApp (g := g7) (cap := cap7) (s := (⟨a2, p2, k2⟩ : Vt)) HG7.out HOr7.out HOwn7.out
              have HSA : Hid (SepW w w9 [obVts (.slice (some ⟨g7, 0, none⟩) (out ++ [(⟨a2, p2, k2⟩ : Vt)]).length cap7) 80 (vs ++ [.int .u64 a2, .int .u64 p2, .slice bo k2.length bc]) (out ++ [⟨a2, p2, k2⟩]), obRd (.pointer (some ⟨b0, 0, none⟩)) D k1]) := Lib.hid (by
                rw [List.length_append, List.length_singleton]
                exact (SepW.sub ⟨hsA, HS9.out.sep.belowAt HS9.out.below 0 rfl (hkA.mono (fun q _ hq => Or.inl hq))⟩ ((List.sublist_cons_self _ _).cons_cons _)))
              clear hsA hkA hwu
              go_roundw
              case rel => exact ⟨m, out ++ [⟨a2, p2, k2⟩], k1, _, _, _, by rw [HWm.out], by rw [List.length_append]; rfl, HU2.out, HSA.out, HQ3.out, HL2.out⟩
              case measure => simp [intOf, HWm.out]
            · have hb2 : (k1.e != 0) = true := by simp [hke]
              have hq3 : q = (k1.e, []) := by
                rw [← HQ.out, getL_three (by rw [HA.out]; exact HE.out) (by rw [HA.out]; exact HNf.out) (by rw [HA.out]; simp only; rw [HP.out]; simp only; rw [HK.out]; exact hke), HA.out]
                simp only
                rw [HP.out]
                simp only
                rw [HK.out]
              have HQ3 := Lib.hid hq3
              clear hq3 hke
              go_wp2_with fail
              refine bodyPost_ret (v := .tuple #[.slice none 0 0, .int .i64 k1.e]) (by simp [results, Tryz.results90, go_sem]) rfl ?_
              exact RetGet.bad HS7.out HQ3.out
      · have hb : (a1.e != 0) = true := by simp [he]
        have hq3 : q = (a1.e, []) := by rw [← HQ.out, getL_one (by rw [HA.out]; exact he), HA.out]
        have HQ3 := Lib.hid hq3
        clear hq3 he
        go_wp2_with fail
        refine bodyPost_ret (v := .tuple #[.slice none 0 0, .int .i64 a1.e]) (by simp [results, Tryz.results90, go_sem]) rfl ?_
        exact RetGet.bad HS4.out HQ3.out
end Go.Proofs.YtgmdedkingampaaGreat
