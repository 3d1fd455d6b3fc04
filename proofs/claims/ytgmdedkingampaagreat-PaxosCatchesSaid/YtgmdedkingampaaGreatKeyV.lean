/-
  The keys of a map of votes, as an iterator gives them.
-/
import Derived.Test.YtgmdedkingampaaGreatKeyB
set_option linter.unusedVariables false
set_option linter.unusedSimpArgs false
namespace Go.Proofs.YtgmdedkingampaaGreat
open Go.RowKit Go.Shelf Go.Maps

attribute [local go_sem] Oper.semAt_some

set_option maxRecDepth 100000 in
set_option maxHeartbeats 1000000 in
theorem keysV1_in (F : Fence) (n : Nat) (hf : F.fn 112) (hro : F.round = none) (hn : 1 ≤ n) (l Bm b nn : Nat) (D0 : DataW Value) (J Jx : List Int → World → Prop)
    (hY : ∀ pre x W, J pre W → pre.length < Maps.size D0 → YieldAt F (n - 1) Tryz.prog l #[.int .u64 x] W fun e W' =>
      (e = .returned (.bool true) ∧ J (pre ++ [x]) W' ∧ KeepsWalks W W') ∨ (e = .returned (.bool false) ∧ Jx (pre ++ [x]) W'))
    (W : World) (hJ : AbidesFrom W.heap.size J) (hm : W.cell? ⟨Bm, 0, none⟩ = some (.map (some b))) (hown : W.ownsMap Tryz.prog 39 heldR b nn D0) (h0 : J [] W) :
    CallsIn F n Tryz.prog 112 #[.func (.yield l) #[] #[], .pointer (some ⟨Bm, 0, none⟩)] W fun e W' => (∃ v, e = .returned v) ∧
      ((∃ ss : List Int, (ss.Nodup ∧ ∀ x, x ∈ ss ↔ has D0 (.int .u64 x) = true) ∧ J ss W') ∨ (∃ pre : List Int, True ∧ Jx pre W')) := by
  have kU : Keyed Tryz.prog 39 := int_keyed Tryz.underlying39
  refine callsIn_of_wp Tryz.func112 rfl hf ?_ hro
  simp only [Tryz.ntmps112, List.size_toArray, List.length_cons, List.length_nil, Nat.reduceAdd, Nat.reduceSub, Array.replicate_succ, Array.replicate_zero, List.push_toArray, List.append_toArray, List.nil_append, List.cons_append]
  gi_wp2_with (first
    | (gi_at_range; refine wpListIn_range_own _ rfl _ 123 rfl 39 80 kU Tryz.underlying123 _ b nn _ rfl hown ?_; intro w0 hrg0 hg0 hs0)
    | gi_in)
  go_frame
  gi_loopw [3] (fun _ wr => ∃ (left : Lit → Bool) (cnt : Nat) (ss : List Int), wr.ranges Tryz.prog 39 heldR b W.heap.size nn D0 left cnt ∧ ss.length + cnt ≤ Maps.size D0 ∧ CollU D0 left ss ∧ J ss wr)
    (fun _ wr => wr.rangeLeft b W.heap.size)
  case atStart =>
    exact ⟨_, _, [], hrg0, by simp, CollU.start D0, hJ [] W w0 none h0 hg0 (fun r e => by cases e)⟩
  case round =>
    obtain ⟨left, cnt, ss, hrg, hcs, hC, hJs⟩ := hrel
    gi_wp2_with (first
      | (gi_at_next; refine wpListIn_next_ranges _ rfl _ rfl 39 kU heldR (Value.int .u64) id (fun key kl hk => by obtain ⟨x, hx, _⟩ := Maps.keyOf_int_inv Tryz.underlying39 hk; exact ⟨x, hx⟩) (fun v _ _ => ⟨v, rfl⟩) b W.heap.size nn _ _ _ rfl hrg ?_ ?_)
      | gi_in)
    · intro hc0 hl0
      gi_wp2
      go_end0
      exact ⟨⟨_, rfl⟩, .inl ⟨ss, ⟨hC.1, fun x => by rw [hC.2 x, hl0]; simp⟩, hJs⟩⟩
    · intro x c kl yd yp w2 cnt2 hkey hlk hv hat hrg2 hlt hg2 hs2 hen
      obtain ⟨x', ex, rfl, _⟩ := Maps.keyOf_int_inv Tryz.underlying39 hkey
      obtain rfl : x = x' := by cases ex; rfl
      have hJ2 : J ss w2 := hJ ss wr w2 (some W.heap.size) hJs hg2 (fun r e => by cases e; exact ⟨Nat.le_refl _, hrg.iter_walk⟩)
      obtain ⟨fn, tmps, assign, body, hy, hR⟩ := hY ss x w2 hJ2 (by omega)
      clear hs2
      gi_wp2
      refine hR.mono ?_
      have hC2 := hC.step hlk hat
      rintro e W3 (⟨rfl, hJ3, hk3⟩ | ⟨rfl, hJx3⟩)
      · gi_wp2
        have hrg3 := hrg2.of_walks hk3
        go_roundw
        case rel => exact ⟨_, cnt2, ss ++ [x], hrg3, by simp; omega, hC2, hJ3⟩
        case measure => rw [hrg3.left_eq, hrg.left_eq]; exact hlt
      · gi_wp2
        refine bodyPost_ret (results_none rfl _ _ _) rfl ?_
        exact ⟨⟨_, rfl⟩, .inr ⟨ss ++ [x], trivial, hJx3⟩⟩
theorem keysV_any (mb : Option Nat) (w : World) : Calls Tryz.prog 78 #[.map mb] w fun e w' =>
    e = .returned (.func (.func 112) #[] #[.pointer (some ⟨w.heap.size, 0, none⟩)]) ∧ w' = w.alloc (.cells #[.map mb] 123) := by
  go_enter Tryz.func78, Tryz.ntmps78
  go_wp2
  go_ret
  exact ⟨rfl, rfl⟩
theorem keysV_stops (F : Fence) (n : Nat) (hf : F.fn 112) (hro : F.round = none) (hn : 1 ≤ n) (Bm b nn : Nat) {f : Lit → Option Value} (w : World) (hBm : Bm < w.heap.size) (hm : w.cell? ⟨Bm, 0, none⟩ = some (.map (some b))) (h : MapR w Tryz.prog 39 b nn f) :
    ∃ N, N ≤ nn ∧ SeqStopsK F n Tryz.prog 112 #[.pointer (some ⟨Bm, 0, none⟩)] (fun x : Int => #[Value.int .u64 x]) KeepsWalks (AllKeys f) (fun _ => True) N w := by
  obtain ⟨D, hown, _, hf'⟩ := h
  refine ⟨Maps.size D, hown.size_le, fun l J Jx W hW hJ _ hY h0 => ?_⟩
  have hown' : W.ownsMap Tryz.prog 39 heldR b nn D := by
    have hbl := hown.lt
    obtain ⟨es, clock, hb, Ft, hs, hD⟩ := hown
    exact ⟨es, clock, (hW.block b hbl).trans hb, Ft, hs, hD⟩
  refine (keysV1_in F n hf hro hn l Bm b nn D J Jx hY W hJ ((hW.cell (p := ⟨Bm, 0, none⟩) hBm).trans hm) hown' h0).mono ?_
  rintro e W' ⟨h1, h2⟩
  refine ⟨h1, h2.imp (fun ⟨ss, ⟨a, b⟩, c⟩ => ⟨ss, ⟨a, fun x => by rw [b x, (hf' _).1]⟩, c⟩) (fun ⟨pre, a, c⟩ => ⟨pre, a, c⟩)⟩
end Go.Proofs.YtgmdedkingampaaGreat
