/-
  Sets of small numbers as bits; how many they are; math/bits.OnesCount32.
-/
import Derived.Test.YtgmdedkingampaaGreatLib
import Derived.Test.YtgmdedkingampaaGreatProg
import Derived.Lib.BitFns
import Derived.Laws.BitsLemmas
set_option linter.unusedVariables false
set_option linter.unusedSimpArgs false
namespace Go.Proofs.YtgmdedkingampaaGreat
open Go.ChangeShapes Go.WideShapes Go.ChangeAt Go.RowKit
set_option maxRecDepth 100000

theorem pop_split (a b x : Nat) : Lib.popAux (a + b) x = Lib.popAux a x + Lib.popAux b (x / 2 ^ a) := by
  induction a generalizing x with
  | zero => simp [Lib.popAux]
  | succ a ih =>
    rw [show a + 1 + b = (a + b) + 1 by omega]
    show x % 2 + Lib.popAux (a + b) (x / 2) = x % 2 + Lib.popAux a (x / 2) + _
    rw [ih, Nat.div_div_eq_div_mul, Nat.pow_succ, Nat.mul_comm 2]
    omega
theorem pop_zero (b : Nat) : Lib.popAux b 0 = 0 := by
  induction b with
  | zero => rfl
  | succ b ih => show 0 % 2 + Lib.popAux b (0 / 2) = 0; simp [ih]
theorem pop_mod (a x : Nat) : Lib.popAux a (x % 2 ^ a) = Lib.popAux a x := by
  induction a generalizing x with
  | zero => rfl
  | succ a ih =>
    show x % 2 ^ (a + 1) % 2 + Lib.popAux a (x % 2 ^ (a + 1) / 2) = x % 2 + Lib.popAux a (x / 2)
    have e1 : x % 2 ^ (a + 1) % 2 = x % 2 := Nat.mod_mod_of_dvd x ⟨2 ^ a, by rw [Nat.pow_succ, Nat.mul_comm]⟩
    have e2 : x % 2 ^ (a + 1) / 2 = x / 2 % 2 ^ a := by rw [Nat.pow_succ, Nat.mul_comm, Nat.mod_mul_right_div_self]
    rw [e1, e2, ih]
theorem pop_byte {n : Nat} (h : n < 256) : Lib.onesCount n = Lib.popAux 8 n := by
  unfold Lib.onesCount
  rw [show (64 : Nat) = 8 + 56 by rfl, pop_split, Nat.div_eq_of_lt h, pop_zero]
  rfl
/-- How many bits a number of 32 bits has. -/
theorem pop_32 (x : Nat) (h : x < 4294967296) : Lib.popAux 32 x = Lib.onesCount (x / 16777216) + Lib.onesCount (x / 65536 % 256) + Lib.onesCount (x / 256 % 256) + Lib.onesCount (x % 256) := by
  rw [pop_byte (show x / 16777216 < 256 by omega), pop_byte (show x / 65536 % 256 < 256 by omega), pop_byte (show x / 256 % 256 < 256 by omega), pop_byte (show x % 256 < 256 by omega)]
  rw [show (32 : Nat) = 8 + (8 + (8 + 8)) by rfl, pop_split, pop_split, pop_split]
  have e1 := pop_mod 8 x
  have e2 := pop_mod 8 (x / 2 ^ 8)
  have e3 := pop_mod 8 (x / 2 ^ 8 / 2 ^ 8)
  rw [← e1, ← e2, ← e3, Nat.div_div_eq_div_mul, Nat.div_div_eq_div_mul]
  simp only [show (2 : Nat) ^ 8 = 256 by rfl, show (256 * 256 : Nat) = 65536 by rfl, show (65536 * 256 : Nat) = 16777216 by rfl]
  omega
/-- The number of a set of numbers below n. -/
def msk : Nat → (Nat → Bool) → Nat
  | 0, _ => 0
  | n + 1, f => msk n f + if f n then 2 ^ n else 0
def cnt : Nat → (Nat → Bool) → Nat
  | 0, _ => 0
  | n + 1, f => cnt n f + if f n then 1 else 0
theorem msk_lt (n : Nat) (f : Nat → Bool) : msk n f < 2 ^ n := by
  induction n with
  | zero => simp [msk]
  | succ n ih => unfold msk; rw [Nat.pow_succ]; split <;> omega
theorem cnt_le (n : Nat) (f : Nat → Bool) : cnt n f ≤ n := by
  induction n with
  | zero => simp [cnt]
  | succ n ih => unfold cnt; split <;> omega
theorem msk_congr {n : Nat} {f g : Nat → Bool} (h : ∀ k, k < n → f k = g k) : msk n f = msk n g := by
  induction n with
  | zero => rfl
  | succ n ih => unfold msk; rw [ih (fun k hk => h k (by omega)), h n (by omega)]
theorem pop_msk (n : Nat) (f : Nat → Bool) : Lib.popAux n (msk n f) = cnt n f := by
  induction n with
  | zero => rfl
  | succ n ih =>
    have hl := msk_lt n f
    rw [pop_split n 1]
    unfold msk cnt
    by_cases h : f n = true
    · rw [if_pos h, if_pos h]
      have e1 : Lib.popAux n (msk n f + 2 ^ n) = Lib.popAux n (msk n f) := by
        rw [← pop_mod, Nat.add_mod_right, pop_mod]
      have e2 : (msk n f + 2 ^ n) / 2 ^ n = 1 := by rw [Nat.add_div_right _ (Nat.two_pow_pos n), Nat.div_eq_of_lt hl]
      rw [e1, e2, ih]
      rfl
    · rw [if_neg h, if_neg h, Nat.add_zero, Nat.div_eq_of_lt hl, ih]
      rfl
/-- One more. -/
def addK (f : Nat → Bool) (k : Nat) : Nat → Bool := fun i => if i = k then true else f i
theorem msk_bit {n k : Nat} (f : Nat → Bool) (hk : k < n) : msk n f / 2 ^ k % 2 = if f k then 1 else 0 := by
  induction n with
  | zero => omega
  | succ n ih =>
    unfold msk
    by_cases e : k = n
    · subst e
      have hl := msk_lt k f
      by_cases h : f k = true
      · rw [if_pos h, if_pos h, Nat.add_div_right _ (Nat.two_pow_pos k), Nat.div_eq_of_lt hl]
      · rw [if_neg h, if_neg h, Nat.add_zero, Nat.div_eq_of_lt hl]
    · have ih := ih (by omega)
      by_cases h : f n = true
      · rw [if_pos h]
        obtain ⟨j, rfl⟩ : ∃ j, n = k + 1 + j := ⟨n - k - 1, by omega⟩
        have e2 : (2 : Nat) ^ (k + 1 + j) = 2 ^ k * (2 * 2 ^ j) := by rw [Nat.pow_add, Nat.pow_succ, Nat.mul_assoc]
        rw [e2, Nat.add_mul_div_left _ _ (Nat.two_pow_pos k), Nat.add_mul_mod_self_left, ih]
      · rw [if_neg h, Nat.add_zero, ih]
theorem msk_add {n k : Nat} (f : Nat → Bool) (hk : k < n) (hf : f k = false) : msk n (addK f k) = msk n f + 2 ^ k := by
  induction n with
  | zero => omega
  | succ n ih =>
    unfold msk
    by_cases e : k = n
    · subst e
      have : msk k (addK f k) = msk k f := msk_congr (fun i hi => by unfold addK; rw [if_neg (by omega)])
      rw [this, hf]
      simp [addK]
    · rw [ih (by omega)]
      have : addK f k n = f n := by unfold addK; rw [if_neg (by omega)]
      rw [this]; omega
theorem cnt_congr {n : Nat} {f g : Nat → Bool} (h : ∀ k, k < n → f k = g k) : cnt n f = cnt n g := by
  induction n with
  | zero => rfl
  | succ n ih => unfold cnt; rw [ih (fun k hk => h k (by omega)), h n (by omega)]
theorem cnt_add {n k : Nat} (f : Nat → Bool) (hk : k < n) (hf : f k = false) : cnt n (addK f k) = cnt n f + 1 := by
  induction n with
  | zero => omega
  | succ n ih =>
    unfold cnt
    by_cases e : k = n
    · subst e
      have : cnt k (addK f k) = cnt k f := cnt_congr (fun i hi => by unfold addK; rw [if_neg (by omega)])
      rw [this, hf]
      simp [addK]
    · rw [ih (by omega)]
      have : addK f k n = f n := by unfold addK; rw [if_neg (by omega)]
      rw [this]; omega
theorem addK_self {f : Nat → Bool} {k : Nat} (h : f k = true) : addK f k = f := by
  funext i; unfold addK; by_cases e : i = k
  · subst e; rw [if_pos rfl, h]
  · rw [if_neg e]
/-- The bit is laid in. -/
theorem msk_or {n k : Nat} (f : Nat → Bool) (hk : k < n) : msk n f ||| 2 ^ k = msk n (addK f k) := by
  apply Nat.eq_of_testBit_eq
  intro i
  have tb : ∀ (g : Nat → Bool) (i : Nat), (msk n g).testBit i = (decide (i < n) && g i) := by
    intro g i
    by_cases hi : i < n
    · have := msk_bit g hi
      rw [Nat.testBit_eq_decide_div_mod_eq, this]
      cases g i <;> simp [hi]
    · rw [Nat.testBit_lt_two_pow (Nat.lt_of_lt_of_le (msk_lt n g) (Nat.pow_le_pow_right (by decide) (by omega)))]
      simp [hi]
  rw [Nat.testBit_or, tb, tb, Nat.testBit_two_pow]
  unfold addK
  by_cases e : i = k
  · subst e; simp [hk]
  · have : ¬ k = i := fun h => e h.symm
    simp [e, this]
set_option maxHeartbeats 2000000 in
theorem ones_any (f : Nat → Bool) (w : World) : Calls Tryz.prog 140 #[.int .u32 (msk 32 f)] w fun e w' => e = .returned (.int .i64 (cnt 32 f)) ∧ Drew w w' := by
  have hl : msk 32 f < 4294967296 := msk_lt 32 f
  have hp : cnt 32 f = _ := (pop_msk 32 f).symm.trans (pop_32 _ hl)
  generalize msk 32 f = x at *
  have hc := cnt_le 32 f
  have pp : ∀ n : Nat, n < 256 → Lib.pop8 (n : Int) = (Lib.onesCount n : Int) := fun n hn => Lib.pop8_eq ⟨n, hn⟩
  have hsum : (Lib.pop8 ((x : Int) / 16777216) + Lib.pop8 ((x : Int) / 65536 % 256) + Lib.pop8 ((x : Int) / 256 % 256) + Lib.pop8 ((x : Int) % 256)) % 256 = (cnt 32 f : Int) := by
    have e1 := pp (x / 16777216) (by omega)
    have e2 := pp (x / 65536 % 256) (by omega)
    have e3 := pp (x / 256 % 256) (by omega)
    have e4 := pp (x % 256) (by omega)
    have c1 : ((x / 16777216 : Nat) : Int) = (x : Int) / 16777216 := by omega
    have c2 : ((x / 65536 % 256 : Nat) : Int) = (x : Int) / 65536 % 256 := by omega
    have c3 : ((x / 256 % 256 : Nat) : Int) = (x : Int) / 256 % 256 := by omega
    have c4 : ((x % 256 : Nat) : Int) = (x : Int) % 256 := by omega
    rw [c1] at e1; rw [c2] at e2; rw [c3] at e3; rw [c4] at e4
    rw [e1, e2, e3, e4]
    omega
  have HSum := Lib.hid hsum
  clear hp hsum pp hc
  have a1 : bits BinOp.and IntKind.u32 ((x : Int) / 65536) 255 = (x : Int) / 65536 % 256 := bits_mask .u32 32 (by decide) (fun n h0 h1 => IntWalk.u32_in n (by constructor <;> omega)) 8 (by decide) _ (by omega) (by omega)
  have a2 : bits BinOp.and IntKind.u32 ((x : Int) / 256) 255 = (x : Int) / 256 % 256 := bits_mask .u32 32 (by decide) (fun n h0 h1 => IntWalk.u32_in n (by constructor <;> omega)) 8 (by decide) _ (by omega) (by omega)
  have a3 : bits BinOp.and IntKind.u32 (x : Int) 255 = (x : Int) % 256 := bits_mask .u32 32 (by decide) (fun n h0 h1 => IntWalk.u32_in n (by constructor <;> omega)) 8 (by decide) _ (by omega) (by omega)
  have b0 : 0 ≤ (x : Int) / 16777216 := by omega
  have b1 : (x : Int) / 16777216 ≤ 255 := by omega
  have b2 : 0 ≤ (x : Int) / 65536 % 256 := by omega
  have b3 : (x : Int) / 65536 % 256 ≤ 255 := by omega
  have b4 : 0 ≤ (x : Int) / 256 % 256 := by omega
  have b5 : (x : Int) / 256 % 256 ≤ 255 := by omega
  have b6 : 0 ≤ (x : Int) % 256 := by omega
  have ut := Tryz.underlying9
  have b7 : (x : Int) % 256 ≤ 255 := by omega
  go_enter Tryz.func140, Tryz.ntmps140
  go_wp2_with fail
  simp only [List.append_eq, List.cons_append, List.nil_append, Lib.fold_pop8tab]
  go_quiet (fail)
  go_wp2_with fail
  go_ret
  rw [HSum.out]
  exact ⟨rfl, Drew.of _ _⟩
end Go.Proofs.YtgmdedkingampaaGreat
