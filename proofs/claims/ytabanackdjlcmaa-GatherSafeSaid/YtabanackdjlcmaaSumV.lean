/-
  Contract of vec.Sum.
-/
import Derived.Test.YtabanackdjlcmaaPlain
namespace Go.Proofs.Ytabanackdjlcmaa
open Go.RowKit

/-- All numbers together, where they are of 64 bits. -/
def sumV (xs : List Int) : Int := if sumI xs ≤ 18446744073709551615 then sumI xs else 0
def sumE (xs : List Int) : Int := if sumI xs ≤ 18446744073709551615 then 0 else 37

theorem run_add64_at {f : FuncId} (hf : ∀ args w, (callFunc f args).run Try.prog w = ((add64Entry args).run Try.prog w).andThen fun v w' => .ok (.value v) w') (x y : Int) (hx : 0 ≤ x) (hy : 0 ≤ y) (w : World) :
    Sem.run Try.prog (callFunc f #[.int .u64 x, .int .u64 y, .int .u64 0]) w = .ok (.value (.tuple #[.int .u64 ((x + y) % 18446744073709551616), .int .u64 ((x + y) / 18446744073709551616)])) w := by
  rw [hf, run_add64 x y 0 hx hy (by omega) (by omega)]
  simp only [Int.add_zero]
  rfl
theorem add64_in (x y : Int) (hx : 0 ≤ x) (hy : 0 ≤ y) (h : x + y ≤ 18446744073709551615) (w : World) :
    Sem.run Try.prog (callFunc 75 #[.int .u64 x, .int .u64 y, .int .u64 0]) w = .ok (.value (.tuple #[.int .u64 (x + y), .int .u64 0])) w := by
  rw [run_add64_at (fun args w => run_callFunc_extern Try.func75 (by kernel_rfl) (by kernel_rfl) (by kernel_rfl) (e := add64Entry) (by kernel_rfl) args w) x y hx hy, show (x + y) % 18446744073709551616 = x + y by omega, show (x + y) / 18446744073709551616 = 0 by omega]
theorem add64_out (x y : Int) (hx : 0 ≤ x) (hy : 0 ≤ y) (hx1 : x ≤ 18446744073709551615) (hy1 : y ≤ 18446744073709551615) (h : 18446744073709551615 < x + y) (w : World) :
    Sem.run Try.prog (callFunc 75 #[.int .u64 x, .int .u64 y, .int .u64 0]) w = .ok (.value (.tuple #[.int .u64 (x + y - 18446744073709551616), .int .u64 1])) w := by
  rw [run_add64_at (fun args w => run_callFunc_extern Try.func75 (by kernel_rfl) (by kernel_rfl) (by kernel_rfl) (e := add64Entry) (by kernel_rfl) args w) x y hx hy, show (x + y) % 18446744073709551616 = x + y - 18446744073709551616 by omega, show (x + y) / 18446744073709551616 = 1 by omega]

set_option maxHeartbeats 400000 in
theorem sum_any {v : Value} {xs : List Int} {w : World} (h : SlR w v (u64s xs)) (hu : U64 xs) :
    Calls Try.prog 71 #[v] w fun e w' => e = .returned (.tuple #[.int .u64 (sumV xs), .int .i64 (sumE xs)]) ∧ w = w' := by
  have Hu := Lib.hid hu
  clear hu
  obtain ⟨ao, c, rfl, hc, hm, hx⟩ := h
  simp only [List.length_map] at *
  unfold maxLen at hm
  go_enter Try.func71, Try.ntmps71
  go_wp2
  go_loop [11, 4, 5] (fun i n o => ∃ (k : Nat) (s : Int), k ≤ xs.length ∧ i = .int .i64 k ∧ n = .int .u64 s ∧ 0 ≤ s ∧ s ≤ 18446744073709551615 ∧
    ((o = .int .u64 0 ∧ s = sumI (xs.take k)) ∨ (o = .int .u64 1 ∧ 18446744073709551615 < sumI (xs.take k)))) (fun i _ _ => xs.length - (intOf i).toNat)
  case atStart => exact ⟨0, 0, by omega, rfl, rfl, by omega, by omega, Or.inl ⟨rfl, by simp [sumI]⟩⟩
  case round =>
    obtain ⟨k, s, hk, rfl, rfl, hs0, hs1, hor⟩ := hrel
    by_cases hlt : k < xs.length
    · obtain ⟨a, rfl, hcell⟩ := hx k (.int .u64 xs[k]) (by simp [hlt])
      have hub := Hu.out xs[k] (List.getElem_mem hlt)
      have hss := Lib.hid (sumI_take_succ xs k hlt)
      generalize xs[k] = x at *
      obtain ⟨hx0, hx1⟩ := hub
      clear hx
      by_cases hov : s + x ≤ 18446744073709551615
      · have hadd := add64_in s x hs0 hx0 hov
        rcases hor with ⟨rfl, hor⟩ | ⟨rfl, hor⟩
        all_goals
          have HR := Lib.hid hor
          clear hor
          go_wp2
          go_round
        case rel => exact ⟨k + 1, s + x, by omega, by go_num, rfl, by omega, by omega, Or.inl ⟨rfl, by rw [hss.out, ← HR.out]⟩⟩
        case measure => simp [intOf]; omega
        case rel => exact ⟨k + 1, s + x, by omega, by go_num, rfl, by omega, by omega, Or.inr ⟨rfl, by rw [hss.out]; have := HR.out; omega⟩⟩
        case measure => simp [intOf]; omega
      · have hadd := add64_out s x hs0 hx0 hs1 hx1 (by omega)
        obtain ⟨t, ht⟩ : ∃ t, t = s + x - 18446744073709551616 := ⟨_, rfl⟩
        rw [← ht] at hadd
        have ht0 : 0 ≤ t := by omega
        have ht1 : t ≤ 18446744073709551615 := by omega
        have hgt : 18446744073709551615 < s + x := by omega
        clear ht
        rcases hor with ⟨rfl, hor⟩ | ⟨rfl, hor⟩
        all_goals
          have HR := Lib.hid hor
          clear hor
          go_wp2
          go_round
        case rel => exact ⟨k + 1, t, by omega, by go_num, rfl, ht0, ht1, Or.inr ⟨rfl, by rw [hss.out]; have := HR.out; omega⟩⟩
        case measure => simp [intOf]; omega
        case rel => exact ⟨k + 1, t, by omega, by go_num, rfl, ht0, ht1, Or.inr ⟨rfl, by rw [hss.out]; have := HR.out; omega⟩⟩
        case measure => simp [intOf]; omega
    · have hkl : k = xs.length := by omega
      subst hkl
      rw [List.take_length] at hor
      rcases hor with ⟨rfl, hor⟩ | ⟨rfl, hor⟩
      · have e1 : sumV xs = s := by unfold sumV; rw [if_pos (by omega)]; omega
        have e2 : sumE xs = 0 := by unfold sumE; rw [if_pos (by omega)]
        have E1 := Lib.hid e1
        have E2 := Lib.hid e2
        clear e1 e2 hor
        go_wp2
        go_ret2
        exact ⟨by rw [E1.out, E2.out]; rfl, rfl⟩
      · have e1 : sumV xs = 0 := by unfold sumV; rw [if_neg (by omega)]
        have e2 : sumE xs = 37 := by unfold sumE; rw [if_neg (by omega)]
        have E1 := Lib.hid e1
        have E2 := Lib.hid e2
        clear e1 e2 hor
        go_wp2
        go_ret2
        exact ⟨by rw [E1.out, E2.out]; rfl, rfl⟩
end Go.Proofs.Ytabanackdjlcmaa
