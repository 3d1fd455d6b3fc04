/-
  The library's sort at numbers of 64 bits without sign: slices.Sort.
-/
import Derived.Test.YtjdjfhioobhcjaaSrtA
import Derived.Sort.AssemblyPlain
import Derived.Shelf.SortM.So_math_bits_LenIn
namespace Go.Proofs.Ytjdjfhioobhcjaa
open Go.ChangeShapes Go.WideShapes Go.ChangeAt Go.RowKit Go.Sort
set_option maxRecDepth 100000
set_option linter.unusedVariables false
set_option linter.unusedSimpArgs false

theorem len_u (n : Nat) (hn : n < 1000000) (w : World) : Calls Try.prog 92 #[.int .u64 n] w fun e w' => e = .returned (.int .i64 (bitsLen n)) ∧ w = w' :=
  (calls_of_every_depth fun D => AnySM.bits_LenIn (ρ := Try.npowA_ren) { Try.npowA with } D (n : Int) w (by omega) (by omega)).mono fun _ _ ⟨h1, h2⟩ => ⟨by rw [h1, Int.toNat_natCast, bitLen_eq _ (by omega)], h2.symm⟩
theorem RowU.of_own {w : World} {base g n c : Nat} {xs : List Int} (h : w.ownsRow base 29 1 (.slice (some ⟨g, 0, none⟩) n c) n (xs.map (Value.int .u64))) : ∃ rest, RowU w g xs.toArray rest ∧ xs.length = n ∧ rest.length + n = c ∧ c ≤ maxLen ∧ base ≤ g := by
  obtain ⟨h1, h2⟩ := h
  rcases h2 with ⟨hn, _⟩ | ⟨g', cap, cur, hv, hb, hg, hnc, hcm, hcs, htake⟩
  · cases hn
  · cases hv
    refine ⟨cur.toList.drop n, ?_, by simp at h1; omega, by simp; omega, hcm, hb⟩
    unfold RowU
    rw [hg]
    congr 2
    apply Array.toList_inj.1
    simp only [List.toList_toArray]
    rw [Nat.mul_one] at htake
    rw [← htake, List.take_append_drop]
theorem RowU.to_own {w : World} {base g n c : Nat} {d : Array Int} {rest : List Value} (h : RowU w g d rest) (hn : d.size = n) (hc : rest.length + n = c) (hm : c ≤ maxLen) (hb : base ≤ g) : w.ownsRow base 29 1 (.slice (some ⟨g, 0, none⟩) n c) n (d.toList.map (Value.int .u64)) := by
  refine ⟨by simp [hn], Or.inr ⟨g, c, _, rfl, hb, h, by omega, hm, by simp; omega, ?_⟩⟩
  simp only [List.toList_toArray, Nat.mul_one]
  rw [List.take_append_of_le_length (by simp; omega), List.take_of_length_le (by simp; omega)]

set_option maxHeartbeats 1000000 in
theorem sort_u {w : World} {base g n c : Nat} {xs : List Int} (h : w.ownsRow base 29 1 (.slice (some ⟨g, 0, none⟩) n c) n (xs.map (Value.int .u64))) (hn : n < 1000000) :
    Calls Try.prog 79 #[.slice (some ⟨g, 0, none⟩) n c] w fun e w' => e = .returned (.tuple #[]) ∧ w'.ownsRow base 29 1 (.slice (some ⟨g, 0, none⟩) n c) n ((xs.mergeSort (fun x y => decide (x ≤ y))).map (Value.int .u64)) ∧ Keep (fun x => x = g) w w' := by
  obtain ⟨rest, hR, hxl, hrl, hcm, hbg⟩ := RowU.of_own h
  have hk : bitsLen n ≤ 20 := (bitsLen_le_iff n 20).2 (by omega)
  have hP := pdq_u (n + 1) (w := w) (d := xs.toArray) c 0 n (bitsLen n) (by omega) hR (by simpa using hxl) (by omega) (Nat.le_refl _) hn (by omega) (Or.inl rfl)
  have hsort := sortInt xs
  unfold Sort.sort at hsort
  rw [show xs.toArray.size = n by simpa using hxl] at hsort
  have hsz : (pdq ltInt xs.toArray 0 n (bitsLen n) true true).size = n := by
    have := congrArg List.length hsort
    simp only [Array.length_toList, List.length_mergeSort] at this
    omega
  have HP := Lib.hid hP
  have HS := Lib.hid hsort
  have HL := Lib.hid (fun w => len_u n (by omega) w)
  have hLu : IntKind.u64.wrap (n : Int) = (n : Int) := IntWalk.u64_in _ (by omega)
  clear h hR hxl hP hsort
  go_enter Try.func79, Try.ntmps79
  go_wp2_with fail
  refine (HL.out _).mono ?_
  rintro e w' ⟨rfl, rfl⟩
  go_wp2_with fail
  refine HP.out.mono ?_
  rintro e w1 ⟨rfl, hw1, hk1⟩
  have HW1 := Lib.hid hw1
  have HK1 := Lib.hid hk1
  clear hw1 hk1
  go_wp2_with fail
  go_end0
  have := RowU.to_own HW1.out hsz hrl hcm hbg
  rw [HS.out] at this
  exact ⟨rfl, this, HK1.out⟩
theorem insort_nil (p : Option Addr) (cap : Nat) (w : World) : Calls Try.prog 94 #[.slice p 0 cap, .int .i64 0, .int .i64 0] w fun e w' => e = .returned (.tuple #[]) ∧ w = w' := by
  go_enter Try.func94, Try.ntmps94
  go_wp2_with fail
  go_loopw [6] (fun v wr => v = .int .i64 1 ∧ w = wr) (fun _ _ => 0)
  case atStart => exact ⟨rfl, rfl⟩
  case round =>
    obtain ⟨rfl, rfl⟩ := hrel
    go_wp2_with fail
    go_end0
    exact ⟨rfl, rfl⟩
theorem pdq_nil (p : Option Addr) (cap : Nat) (w : World) : Calls Try.prog 91 #[.slice p 0 cap, .int .i64 0, .int .i64 0, .int .i64 0] w fun e w' => e = .returned (.tuple #[]) ∧ w = w' := by
  go_enter Try.func91, Try.ntmps91
  go_wp2_with fail
  go_loopw [1, 2, 3, 8, 9] (fun s1 s2 s3 s8 s9 wr => s1 = .int .i64 0 ∧ s2 = .int .i64 0 ∧ s3 = .int .i64 0 ∧ s8 = .bool true ∧ s9 = .bool true ∧ w = wr) (fun _ _ _ _ _ _ => 0)
  case atStart => exact ⟨rfl, rfl, rfl, rfl, rfl, rfl⟩
  case round =>
    obtain ⟨rfl, rfl, rfl, rfl, rfl, rfl⟩ := hrel
    go_wp2_with fail
    refine (insort_nil p cap _).mono ?_
    rintro e w' ⟨rfl, rfl⟩
    go_wp2_with fail
    first | go_end0 | go_returns
    exact ⟨rfl, rfl⟩
theorem sort_nil (p : Option Addr) (cap : Nat) (w : World) : Calls Try.prog 79 #[.slice p 0 cap] w fun e w' => e = .returned (.tuple #[]) ∧ w = w' := by
  have HL := Lib.hid (fun w => len_u 0 (by omega) w)
  have h0 : bitsLen 0 = 0 := rfl
  rw [h0] at HL
  go_enter Try.func79, Try.ntmps79
  go_wp2_with fail
  refine (HL.out _).mono ?_
  rintro e w' ⟨rfl, rfl⟩
  go_wp2_with fail
  refine (pdq_nil p cap _).mono ?_
  rintro e w' ⟨rfl, rfl⟩
  go_wp2_with fail
  go_end0
  exact ⟨rfl, rfl⟩
end Go.Proofs.Ytjdjfhioobhcjaa
