/-
  The document's numbers: digits, Uint, Bytes.
-/
import Derived.Test.YtjdjfhioobhcjaaNumP
import Derived.Test.YtjdjfhioobhcjaaAcc8
import Derived.Laws.BitsLemmas
namespace Go.Proofs.Ytjdjfhioobhcjaa
open Go.ChangeShapes Go.WideShapes Go.ChangeAt Go.RowKit Go.Maps
set_option maxRecDepth 100000

theorem szF_step (f n : Nat) {x : Int} (hx : 0 ≤ x) : szF f (n + 1) x = szF f n (x / 256) + 1 := by
  induction f generalizing n with
  | zero => rfl
  | succ f ih =>
    have e : x / 256 ^ (n + 1) = x / 256 / 256 ^ n := by rw [Int.ediv_ediv_of_nonneg (by decide), Int.pow_succ, Int.mul_comm]
    unfold szF
    rw [e, ih]
    by_cases h : x / 256 / 256 ^ n = 0
    · rw [if_pos h, if_pos h]
    · rw [if_neg h, if_neg h]
theorem szF_more {f n : Nat} {x : Int} (h : x / 256 ^ (n + f) = 0) : szF (f + 1) n x = szF f n x := by
  induction f generalizing n with
  | zero => have h2 : x / 256 ^ n = 0 := h
            simp [szF, h2]
  | succ f ih =>
    have e : szF (f + 1 + 1) n x = if x / 256 ^ n = 0 then n else szF (f + 1) (n + 1) x := rfl
    have e2 : szF (f + 1) n x = if x / 256 ^ n = 0 then n else szF f (n + 1) x := rfl
    rw [e, e2, ih (by rw [show n + 1 + f = n + (f + 1) by omega]; exact h)]
theorem sz_step {x : Int} (h0 : 0 < x) (h1 : x < 18446744073709551616) : sz x = sz (x / 256) + 1 := by
  unfold sz
  have e : szF 8 0 x = szF 7 1 x := by
    show (if x / 256 ^ 0 = 0 then 0 else szF 7 1 x) = _
    rw [if_neg (by simp; omega)]
  rw [e, szF_step 7 0 (by omega), ← szF_more (f := 7) (n := 0) (x := x / 256)]
  simp
  omega
/-- A number's bytes. -/
def digs (x : Int) : List Int := be (sz x) x
theorem digs_zero : digs 0 = [] := by decide
theorem digs_step {x : Int} (h0 : 0 < x) (h1 : x < 18446744073709551616) : digs x = digs (x / 256) ++ [x % 256] := by
  unfold digs
  rw [sz_step h0 h1, be_snoc]
theorem putU_digs (x : Int) : putU x = ((digs x).length : Int) :: digs x := by unfold putU digs; rw [be_len]
theorem strB_app (a b : List Int) : strB a ++ strB b = strB (a ++ b) := by
  unfold strB
  rw [List.map_append]
  apply ByteArray.ext
  simp
set_option maxHeartbeats 1000000 in
theorem digits_any : ∀ (n : Nat) (x : Int), x < n → U1 x → ∀ w : World, Calls Try.prog 89 #[.int .u64 x] w fun e w' => e = .returned (.string (strB (digs x))) ∧ Below w.heap.size w w'
  | 0, x, h, hu, w => by obtain ⟨h1, h2⟩ := hu; exact absurd h1 (by omega)
  | n + 1, x, h, hu, w => by
    by_cases h0 : x = 0
    · subst h0
      rw [digs_zero]
      go_enter Try.func89, Try.ntmps89
      go_wp2
      go_ret
      exact ⟨rfl, Below.refl _ _⟩
    · have hb : (x == 0) = false := by rw [beq_eq_false_iff_ne]; exact h0
      have hu' := hu
      obtain ⟨hx0, hx1⟩ := hu
      have hq0 : 0 ≤ x / 256 := by omega
      have IH := fun w' => Lib.hid (digits_any n (x / 256) (by omega) ⟨by omega, by omega⟩ w')
      have HS := Lib.hid (digs_step (x := x) (by omega) (by omega))
      have hm0 : 0 ≤ x % 256 := by omega
      have hm1 : x % 256 < 256 := by omega
      have hwd : IntKind.u64.wrap (x.tdiv 256) = x / 256 := by rw [Int.tdiv_eq_ediv_of_nonneg hx0]; exact IntWalk.u64_in _ (by constructor <;> omega)
      have hwm : x.tmod 256 = x % 256 := Int.tmod_eq_emod_of_nonneg hx0
      have hw8 : IntKind.u8.wrap (x % 256) = x % 256 := by rw [IntKind.wrap_u8]; omega
      have hcv : ∀ w' : World, (convert 30 9 (.slice (some ⟨w'.heap.size, 0, none⟩) 1 1)).run Try.prog (w'.alloc (.cells #[.int .u8 (x % 256)] 5)) = .ok (.string (strB [x % 256])) (w'.alloc (.cells #[.int .u8 (x % 256)] 5)) := fun (w' : World) => run_strB (P := Try.prog) (src := 30) (dst := 9) Try.underlying30 Try.underlying5 Try.underlying9 (lit_u8 w' [x % 256] 5 (0, 0) (by simp))
      have hz : ¬ (9223372036854775807 < (strB (digs (x / 256))).size + (strB [x % 256]).size) := by
        have := sz_le (x / 256)
        rw [strB_size, strB_size, digs, be_len]; simp; omega
      have hcvd : ∀ w' : World, (convert 30 9 (.slice (some ⟨w'.heap.size, 0, none⟩) 1 1)).run Try.prog (w'.alloc (.cells #[.int .u8 (x % 256)] 5)).drew = .ok (.string (strB [x % 256])) (w'.alloc (.cells #[.int .u8 (x % 256)] 5)).drew := fun (w' : World) => run_strB (P := Try.prog) (src := 30) (dst := 9) Try.underlying30 Try.underlying5 Try.underlying9 ((lit_u8 w' [x % 256] 5 (0, 0) (by simp)).below (Below.drew (Below.refl _ _)) (Nat.le_refl _))
      have HC2 : Hid (∀ w2 : World, Below ((w.alloc (.cells #[.int .u8 (x % 256)] 5)).drew).heap.size (w.alloc (.cells #[.int .u8 (x % 256)] 5)).drew w2 → (convert 30 9 (.slice (some ⟨w.heap.size, 0, none⟩) 1 1)).run Try.prog w2 = .ok (.string (strB [x % 256])) w2) := Lib.hid (fun w2 hb2 => run_strB (P := Try.prog) (src := 30) (dst := 9) Try.underlying30 Try.underlying5 Try.underlying9 ((lit_u8 w [x % 256] 5 (0, 0) (by simp)).below (Below.trans (Below.drew (Below.refl _ _)) hb2) (Nat.le_refl _)))
      clear h h0 hu'
      go_enter Try.func89, Try.ntmps89
      go_wp2_with fail
      go_region_with (first | (go_at_call 89; (with_reducible refine (IH _).out.mono ?_); rintro e w2 ⟨rfl, hb2⟩; (first | (have hcv2 := HC2.out w2 hb2) | skip)))
      all_goals
        go_wp2_with fail
        go_ret
        rw [strB_app, ← HS.out]
        refine ⟨rfl, ?_⟩
        first
          | exact ((Below.refl _ _).alloc (Nat.le_refl _) _).drew.trans (hb2.mono (by simp))
          | exact ((Below.refl w.heap.size w).drew.trans hb2).alloc (by have := hb2.size; simpa using this) _
          | exact (((Below.refl w.heap.size w).drew.trans hb2).alloc (by have := hb2.size; simpa using this) _).drew
theorem ruintS_any {x : Int} (hu : U1 x) (w : World) : Calls Try.prog 76 #[.int .u64 x] w fun e w' => e = .returned (.string (strB (putU x))) ∧ Below w.heap.size w w' := by
  have HD := fun w => Lib.hid (digits_any (x.toNat + 1) x (by have := hu.1; omega) hu w)
  have hl := sz_le x
  have hP := putU_digs x
  have hdl : (digs x).length ≤ 8 := by unfold digs; rw [be_len]; exact hl
  have hsz := strB_size (digs x)
  obtain ⟨n, hn⟩ : ∃ n, (digs x).length = n := ⟨_, rfl⟩
  rw [hn] at hP hdl hsz
  have HP := Lib.hid hP
  have hm : IntKind.u8.wrap (n : Int) = (n : Int) := by rw [IntKind.wrap_u8]; omega
  have hm2 : (n : Int) % 256 = (n : Int) := by omega
  have hfin : strB [(n : Int)] ++ strB (digs x) = strB (putU x) := by rw [strB_app, hP]; rfl
  have HFin := Lib.hid hfin
  have hcv : ∀ w' : World, (convert 30 9 (.slice (some ⟨w'.heap.size, 0, none⟩) 1 1)).run Try.prog (w'.alloc (.cells #[.int .u8 (n : Int)] 5)) = .ok (.string (strB [(n : Int)])) (w'.alloc (.cells #[.int .u8 (n : Int)] 5)) := fun (w' : World) => run_strB (P := Try.prog) (src := 30) (dst := 9) Try.underlying30 Try.underlying5 Try.underlying9 (lit_u8 w' [(n : Int)] 5 (0, 0) (by simp))
  have hz : ¬ (9223372036854775807 < (strB [(n : Int)]).size + (strB (digs x)).size) := by rw [strB_size, strB_size, hn]; simp; omega
  generalize strB (digs x) = sd at *
  clear hu hl hP hn hfin
  go_enter Try.func76, Try.ntmps76
  go_wp2_with fail
  refine (HD w).out.mono ?_
  rintro e w2 ⟨rfl, hb⟩
  have HB := Lib.hid hb
  clear hb
  go_wp2_with fail
  go_ret
  rw [HFin.out]
  exact ⟨rfl, HB.out.alloc HB.out.size _⟩
theorem rbytesS_any {xs : List Int} (hl : xs.length ≤ 1000000000) (w : World) : Calls Try.prog 77 #[.string (strB xs)] w fun e w' => e = .returned (.string (strB (putB xs))) ∧ Below w.heap.size w w' := by
  have hU := fun w => Lib.hid (ruintS_any (x := (xs.length : Int)) (by constructor <;> omega) w)
  have hsz := strB_size xs
  have hpl := putU_len (xs.length : Int)
  have hps := sz_le (xs.length : Int)
  have hz : ¬ (9223372036854775807 < (strB (putU xs.length)).size + (strB xs).size) := by rw [strB_size, strB_size, hpl]; omega
  have hfin : strB (putU xs.length) ++ strB xs = strB (putB xs) := by rw [strB_app]; rfl
  have HFin := Lib.hid hfin
  have hwl : IntKind.u64.wrap (xs.length : Int) = (xs.length : Int) := IntWalk.u64_in _ (by omega)
  generalize strB xs = sx at *
  clear hpl hfin
  go_enter Try.func77, Try.ntmps77
  go_wp2_with fail
  refine (hU w).out.mono ?_
  rintro e w2 ⟨rfl, hb⟩
  have HB := Lib.hid hb
  clear hb hwl
  go_wp2_with fail
  go_ret
  rw [HFin.out]
  exact ⟨rfl, HB.out⟩
end Go.Proofs.Ytjdjfhioobhcjaa
