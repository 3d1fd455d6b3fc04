/-
  Numbers as bytes, in plain lists; no program in sight.
-/
import Derived.Test.YtgmdedkingampaaGreatLib5
set_option linter.unusedVariables false
set_option linter.unusedSimpArgs false
namespace Go.Proofs.YtgmdedkingampaaGreat

/-- A number's lowest n bytes, the highest first. -/
def be : Nat → Int → List Int
  | 0, _ => []
  | n + 1, x => (x / 256 ^ n % 256) :: be n x
theorem be_len (n : Nat) (x : Int) : (be n x).length = n := by
  induction n with
  | zero => rfl
  | succ n ih => simp [be, ih]
theorem be_U8 (n : Nat) (x : Int) : U8 (be n x) := by
  induction n with
  | zero => intro y hy; cases hy
  | succ n ih =>
    intro y hy
    rcases List.mem_cons.1 hy with rfl | hy
    · omega
    · exact ih y hy
theorem be_snoc (n : Nat) (x : Int) : be (n + 1) x = be n (x / 256) ++ [x % 256] := by
  induction n generalizing x with
  | zero => simp [be]
  | succ n ih =>
    have : be (n + 1 + 1) x = (x / 256 ^ (n + 1) % 256) :: be (n + 1) x := rfl
    rw [this, ih]
    have h2 : be (n + 1) (x / 256) = (x / 256 / 256 ^ n % 256) :: be n (x / 256) := rfl
    have h3 : x / 256 / 256 ^ n = x / 256 ^ (n + 1) := by rw [Int.ediv_ediv_of_nonneg (by decide), Int.pow_succ, Int.mul_comm]
    rw [h2, h3]
    rfl
/-- How many bytes a number has: from a place on, with fuel. -/
def szF : Nat → Nat → Int → Nat
  | 0, n, _ => n
  | f + 1, n, x => if x / 256 ^ n = 0 then n else szF f (n + 1) x
def sz (x : Int) : Nat := szF 8 0 x
theorem szF_bd (f n : Nat) (x : Int) : n ≤ szF f n x ∧ szF f n x ≤ n + f := by
  induction f generalizing n with
  | zero => simp [szF]
  | succ f ih =>
    unfold szF
    split
    · omega
    · have := ih (n + 1); omega
theorem sz_le (x : Int) : sz x ≤ 8 := by have := (szF_bd 8 0 x).2; unfold sz; omega
theorem szF_fit {x : Int} (f n : Nat) (h : x < 256 ^ (n + f)) : x < 256 ^ (szF f n x) := by
  induction f generalizing n with
  | zero => simpa [szF] using h
  | succ f ih =>
    unfold szF
    split
    · rename_i e
      have hp : (0 : Int) < 256 ^ n := Int.pow_pos (by decide)
      have h1 := Int.emod_add_mul_ediv x (256 ^ n)
      have h2 := Int.emod_lt_of_pos x hp
      rw [e] at h1
      simp at h1
      omega
    · exact ih (n + 1) (by rw [show n + 1 + f = n + (f + 1) by omega]; exact h)
theorem sz_fit {x : Int} (_ : 0 ≤ x) (h1 : x < 18446744073709551616) : x < 256 ^ (sz x) := szF_fit 8 0 (by simpa using h1)
theorem szF_top {x : Int} (f n : Nat) (hn : n = 0 ∨ x / 256 ^ (n - 1) ≠ 0) : szF f n x = 0 ∨ x / 256 ^ (szF f n x - 1) ≠ 0 := by
  induction f generalizing n with
  | zero => simpa [szF] using hn
  | succ f ih =>
    unfold szF
    split
    · exact hn
    · rename_i e
      exact ih (n + 1) (Or.inr (by simpa using e))
theorem sz_top (x : Int) : sz x = 0 ∨ x / 256 ^ (sz x - 1) ≠ 0 := szF_top 8 0 (Or.inl rfl)
/-- A number as bytes. -/
def putU (x : Int) : List Int := (sz x : Int) :: be (sz x) x
theorem putU_U8 (x : Int) : U8 (putU x) := by
  intro y hy
  rcases List.mem_cons.1 hy with rfl | hy
  · have := sz_le x; omega
  · exact be_U8 _ _ y hy
theorem putU_len (x : Int) : (putU x).length = sz x + 1 := by simp [putU, be_len]
def putB (b : List Int) : List Int := putU b.length ++ b
/-- A number of bytes. -/
def val (l : List Int) : Int := l.foldl (fun a c => a * 256 + c) 0
theorem val_snoc (l : List Int) (c : Int) : val (l ++ [c]) = val l * 256 + c := by simp [val]
theorem val_nil : val [] = 0 := rfl
theorem val_bdF {l : List Int} (h : U8 l) : ∀ a n, 0 ≤ a → a < 256 ^ n → 0 ≤ l.foldl (fun a c => a * 256 + c) a ∧ l.foldl (fun a c => a * 256 + c) a < 256 ^ (n + l.length) := by
  induction l with
  | nil => intro a n h0 h1; exact ⟨h0, by simpa using h1⟩
  | cons c l ih =>
    intro a n h0 h1
    have h2 := h c (by simp)
    have h3 := ih (fun y hy => h y (by simp [hy])) (a * 256 + c) (n + 1) (by omega) (by rw [Int.pow_succ]; omega)
    rw [show n + 1 + l.length = n + (c :: l).length by simp; omega] at h3
    exact h3
theorem val_bd {l : List Int} (h : U8 l) : 0 ≤ val l ∧ val l < 256 ^ l.length := by
  have := val_bdF h 0 0 (by decide) (by decide)
  simpa [val] using this
theorem val_be {x : Int} (h0 : 0 ≤ x) (n : Nat) (h : x < 256 ^ n) : val (be n x) = x := by
  induction n generalizing x with
  | zero => simp at h; have : x = 0 := by omega
            subst this; rfl
  | succ n ih =>
    rw [be_snoc, val_snoc, ih (by omega) (by rw [Int.pow_succ] at h; omega)]
    omega
theorem pow_le8 {n : Nat} (h : n ≤ 8) : (256 : Int) ^ n ≤ 18446744073709551616 := by
  have : n = 0 ∨ n = 1 ∨ n = 2 ∨ n = 3 ∨ n = 4 ∨ n = 5 ∨ n = 6 ∨ n = 7 ∨ n = 8 := by omega
  rcases this with rfl | rfl | rfl | rfl | rfl | rfl | rfl | rfl | rfl <;> decide

/-- What a reader holds: what is left, and the first error. -/
structure RS where
  b : List Int
  e : Int
def rTake (n : Nat) (r : RS) : RS × List Int :=
  if r.e ≠ 0 then (r, []) else if r.b.length < n then (⟨r.b, 10⟩, []) else (⟨r.b.drop n, 0⟩, r.b.take n)
def rFail (e : Int) (r : RS) : RS := if r.e = 0 then ⟨r.b, e⟩ else r
/-- A number's bytes behind its first byte. -/
def rUB (d : List Int) (r2 : RS) : RS × Int :=
  match d with
  | [] => (r2, 0)
  | c :: l => if c = 0 then (rFail 11 r2, 0) else (r2, val (c :: l))
def rUA (l : List Int) (r1 : RS) : RS × Int :=
  match l with
  | [] => (r1, 0)
  | h :: _ => if 8 < h then (rFail 11 r1, 0) else rUB (rTake h.toNat r1).2 (rTake h.toNat r1).1
/-- A number is read. -/
def rU (r : RS) : RS × Int := rUA (rTake 1 r).2 (rTake 1 r).1
/-- So many bytes are read. -/
def rRaw (n : Int) (r : RS) : RS × List Int := if n < 0 then (rFail 1 r, []) else rTake n.toNat r
/-- Bytes are read. -/
def rB (most : Int) (r : RS) : RS × List Int :=
  if (rU r).1.e ≠ 0 then ((rU r).1, []) else if (rU r).2 > most then (rFail 13 (rU r).1, []) else rTake (rU r).2.toNat (rU r).1
def rEnd (r : RS) : Int := if r.e ≠ 0 then r.e else if r.b.length > 0 then 12 else 0

theorem rTake_err {n : Nat} {r : RS} (h : r.e ≠ 0) : rTake n r = (r, []) := by simp [rTake, h]
theorem rU_err {r : RS} (h : r.e ≠ 0) : rU r = (r, 0) := by unfold rU; rw [rTake_err h]; rfl
theorem rB_err {r : RS} {m : Int} (h : r.e ≠ 0) : rB m r = (r, []) := by unfold rB; rw [rU_err h]; simp [h]
theorem rTake_app (l rest : List Int) : rTake l.length ⟨l ++ rest, 0⟩ = (⟨rest, 0⟩, l) := by
  simp [rTake]
theorem rU_app {x : Int} (h0 : 0 ≤ x) (h1 : x < 18446744073709551616) (rest : List Int) : rU ⟨putU x ++ rest, 0⟩ = (⟨rest, 0⟩, x) := by
  have hs := sz_le x
  have e1 : rTake 1 ⟨putU x ++ rest, 0⟩ = (⟨be (sz x) x ++ rest, 0⟩, [(sz x : Int)]) := by simp [rTake, putU]
  have e2 : rTake (Int.toNat (sz x : Int)) ⟨be (sz x) x ++ rest, 0⟩ = (⟨rest, 0⟩, be (sz x) x) := by
    have := rTake_app (be (sz x) x) rest
    rw [be_len] at this
    simpa using this
  have hv := val_be h0 (sz x) (sz_fit h0 h1)
  unfold rU
  rw [e1]
  simp only [rUA]
  rw [if_neg (by omega), e2]
  have ht := sz_top x
  cases hsz : sz x with
  | zero =>
    rw [hsz] at hv
    simp [be, val, rUB] at hv ⊢
    omega
  | succ n =>
    rw [hsz] at ht hv
    have hf := sz_fit h0 h1
    rw [hsz] at hf
    have hx : x / 256 ^ n < 256 := by
      rw [Int.pow_succ] at hf
      exact Int.ediv_lt_of_lt_mul (Int.pow_pos (by decide)) (by rw [Int.mul_comm]; exact hf)
    have hx0 : 0 ≤ x / 256 ^ n := Int.ediv_nonneg h0 (Int.le_of_lt (Int.pow_pos (by decide)))
    have hne : x / 256 ^ n % 256 ≠ 0 := by
      rcases ht with ht | ht
      · omega
      · simp at ht; omega
    have hb : be (n + 1) x = (x / 256 ^ n % 256) :: be n x := rfl
    rw [hb] at hv ⊢
    simp only [rUB]
    rw [if_neg hne, hv]
/-- A number that is cut. -/
theorem rU_cut {x : Int} (m : Nat) (hm : m < (putU x).length) : (rU ⟨(putU x).take m, 0⟩).1.e = 10 := by
  have hs := sz_le x
  rw [putU_len] at hm
  cases m with
  | zero => simp [rU, rTake, rUA]
  | succ m =>
    have e1 : rTake 1 ⟨(putU x).take (m + 1), 0⟩ = (⟨(be (sz x) x).take m, 0⟩, [(sz x : Int)]) := by simp [rTake, putU]
    unfold rU
    rw [e1]
    simp only [rUA]
    rw [if_neg (by omega)]
    have e2 : rTake (Int.toNat (sz x : Int)) ⟨(be (sz x) x).take m, 0⟩ = (⟨(be (sz x) x).take m, 10⟩, []) := by
      unfold rTake
      have hl : ((be (sz x) x).take m).length < sz x := by rw [List.length_take, be_len]; omega
      rw [if_neg (by simp), if_pos (by simpa using hl)]
    rw [e2]
    rfl
theorem sz_small {n : Nat} (h : n < 18446744073709551616) : (n : Int) < 18446744073709551616 := by omega
theorem rB_app {l : List Int} (most : Int) (h : (l.length : Int) ≤ most) (h1 : (l.length : Int) < 18446744073709551616) (rest : List Int) : rB most ⟨putB l ++ rest, 0⟩ = (⟨rest, 0⟩, l) := by
  unfold rB putB
  rw [List.append_assoc, rU_app (by omega) h1]
  simp only
  rw [if_neg (by simp), if_neg (by omega)]
  simpa using rTake_app l rest
theorem take_app_lt {a b : List Int} {m : Nat} (h : m ≤ a.length) : (a ++ b).take m = a.take m := by rw [List.take_append_of_le_length h]
theorem take_app_ge {a b : List Int} {m : Nat} (h : a.length ≤ m) : (a ++ b).take m = a ++ b.take (m - a.length) := by
  rw [List.take_append, List.take_of_length_le h]
theorem rB_cut {l : List Int} (most : Int) (h : (l.length : Int) ≤ most) (h1 : (l.length : Int) < 18446744073709551616) (m : Nat) (hm : m < (putB l).length) : (rB most ⟨(putB l).take m, 0⟩).1.e = 10 := by
  unfold putB at hm ⊢
  rw [List.length_append] at hm
  by_cases hc : m < (putU l.length).length
  · rw [take_app_lt (by omega)]
    have := rU_cut m hc
    unfold rB
    generalize rU ⟨(putU l.length).take m, 0⟩ = q at *
    obtain ⟨q1, q2⟩ := q
    simp only at this ⊢
    rw [if_pos (by rw [this]; decide)]
    exact this
  · rw [take_app_ge (by omega)]
    unfold rB
    rw [rU_app (by omega) h1]
    simp only
    rw [if_neg (by simp), if_neg (by omega)]
    unfold rTake
    rw [if_neg (by simp), if_pos (by simp; omega)]
theorem rTake_b {n : Nat} {r : RS} (h8 : U8 r.b) (hl : r.b.length ≤ 1000000000) : U8 (rTake n r).1.b ∧ (rTake n r).1.b.length ≤ 1000000000 ∧ U8 (rTake n r).2 ∧ (rTake n r).2.length ≤ 1000000000 := by
  unfold rTake
  split
  · exact ⟨h8, hl, (by intro y hy; cases hy), by simp⟩
  · split
    · exact ⟨h8, hl, (by intro y hy; cases hy), by simp⟩
    · exact ⟨fun y hy => h8 y (List.mem_of_mem_drop hy), by simp; omega, fun y hy => h8 y (List.mem_of_mem_take hy), by simp; omega⟩
theorem rTake_few {n : Nat} {r : RS} : (rTake n r).2.length ≤ n := by
  unfold rTake
  split
  · simp
  · split
    · simp
    · simp; omega
theorem rU_bd {r : RS} (h8 : U8 r.b) (hl : r.b.length ≤ 1000000000) : 0 ≤ (rU r).2 ∧ (rU r).2 ≤ 18446744073709551615 := by
  obtain ⟨g1, g2, g3, g4⟩ := rTake_b (n := 1) h8 hl
  unfold rU
  generalize (rTake 1 r).2 = l at *
  generalize (rTake 1 r).1 = r1 at *
  cases l with
  | nil => simp [rUA]
  | cons h t =>
    have hh := g3 h (by simp)
    simp only [rUA]
    by_cases h9 : 8 < h
    · rw [if_pos h9]; simp
    · rw [if_neg h9]
      obtain ⟨k1, k2, k3, k4⟩ := rTake_b (n := h.toNat) g1 g2
      have k5 := rTake_few (n := h.toNat) (r := r1)
      generalize (rTake h.toNat r1).2 = d at *
      generalize (rTake h.toNat r1).1 = r2 at *
      cases d with
      | nil => simp [rUB]
      | cons c l =>
        simp only [rUB]
        by_cases hc : c = 0
        · rw [if_pos hc]; simp
        · rw [if_neg hc]
          have hv := val_bd k3
          have hp := pow_le8 (n := (c :: l).length) (by omega)
          exact ⟨hv.1, by show val (c :: l) ≤ _; omega⟩
theorem pow_le7 {n : Nat} (h : n ≤ 7) : (256 : Int) ^ n ≤ 72057594037927936 := by
  have : n = 0 ∨ n = 1 ∨ n = 2 ∨ n = 3 ∨ n = 4 ∨ n = 5 ∨ n = 6 ∨ n = 7 := by omega
  rcases this with rfl | rfl | rfl | rfl | rfl | rfl | rfl | rfl <;> decide
end Go.Proofs.YtgmdedkingampaaGreat
