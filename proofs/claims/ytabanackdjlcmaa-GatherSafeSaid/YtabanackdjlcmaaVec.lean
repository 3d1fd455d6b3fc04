/-
  Contracts of package vec: what each function answers, of any rows, in any memory.
-/
import Derived.Test.YtabanackdjlcmaaLib
import Derived.Test.YtabanackdjlcmaaProg
namespace Go.Proofs.Ytabanackdjlcmaa
open Go.RowKit

theorem Try.vecInfo : (Try.prog.info? 39).map (fun i => (i.zero, i.size, i.bytes)) = some (some (.int .u64 0), 1, 8) := by kernel_rfl

set_option maxHeartbeats 400000 in
theorem at_any {v : Value} {xs : List Int} {w : World} (i : Int) (h : SlR w v (u64s xs)) :
    Calls Try.prog 19 #[v, .int .i64 i] w fun e w' => e = .returned (.int .u64 (atI xs i)) ∧ w = w' := by
  obtain ⟨ao, c, rfl, hc, hm, hx⟩ := h
  simp only [List.length_map] at *
  unfold maxLen at hm
  by_cases h0 : 0 ≤ i
  · by_cases h1 : i < xs.length
    · have hl : i.toNat < xs.length := by omega
      obtain ⟨b, rfl, hb⟩ := hx i.toNat (.int .u64 (atI xs i)) (by simp [atI, h0, hl])
      generalize atI xs i = x at *
      clear hx
      go_enter Try.func19, Try.ntmps19
      go_wp2
      go_ret
      exact ⟨rfl, rfl⟩
    · have : atI xs i = 0 := by unfold atI; rw [if_pos h0]; simp; rw [List.getElem?_eq_none (by omega)]; rfl
      rw [this]
      clear this
      go_enter Try.func19, Try.ntmps19
      go_wp2
      go_ret
      exact ⟨rfl, rfl⟩
  · have : atI xs i = 0 := by unfold atI; rw [if_neg h0]
    rw [this]
    clear this
    have h1 : i < 0 := by omega
    go_enter Try.func19, Try.ntmps19
    go_wp2
    go_ret
    exact ⟨rfl, rfl⟩

/-- Something is so at each place of two rows. -/
def allB (p : Int → Int → Bool) (a b : List Int) : Bool := decide (∀ i : Nat, i < max a.length b.length → p (atI a i) (atI b i) = true)

set_option maxHeartbeats 400000 in
theorem all_any (f : FuncId) (p : Int → Int → Bool)
    (hf : ∀ x y w, Calls Try.prog f #[.int .u64 x, .int .u64 y] w fun e w' => e = .returned (.bool (p x y)) ∧ w = w')
    (hcf : ∀ args w, Sem.run Try.prog (callFunc f args) w = .ok (.enter f args) w)
    {va vb : Value} {a b : List Int} {w : World} (ha : SlR w va (u64s a)) (hb : SlR w vb (u64s b)) :
    Calls Try.prog 38 #[va, vb, .func (.func f) #[] #[]] w fun e w' => e = .returned (.bool (allB p a b)) ∧ w = w' := by
  have Ha := Lib.hid ha
  have Hb := Lib.hid hb
  have Hf := Lib.hid hf
  clear hf
  obtain ⟨ao, ca, rfl, hca, hma, hxa⟩ := ha
  obtain ⟨bo, cb, rfl, hcb, hmb, hxb⟩ := hb
  simp only [List.length_map] at *
  unfold maxLen at hma hmb
  clear hxa hxb
  have fin : ∀ M : Nat, M = max a.length b.length → (∀ j : Nat, j < M → p (atI a j) (atI b j) = true) → allB p a b = true := by
    intro M hM h; subst hM; exact decide_eq_true h
  have fin2 : ∀ M k : Nat, M = max a.length b.length → k < M → p (atI a k) (atI b k) = false → allB p a b = false := by
    intro M k hM hk h; subst hM; apply decide_eq_false; intro hh; have := hh k hk; rw [h] at this; cases this
  have F1 := Lib.hid fin
  have F2 := Lib.hid fin2
  clear fin fin2
  generalize allB p a b = R at *
  go_enter Try.func38, Try.ntmps38
  go_wp2
  all_goals
    obtain ⟨M, hM⟩ : ∃ M : Nat, M = max a.length b.length := ⟨_, rfl⟩
    first | (have hMe : b.length = M := by omega) | (have hMe : a.length = M := by omega)
    have hMl : M ≤ 9223372036854775807 := by omega
    have HM := Lib.hid hM
    clear hM
    rw [hMe]
    try rw [hMe] at Hb
    try rw [hMe] at Ha
    go_loop [13] (fun i => ∃ k : Nat, k ≤ M ∧ i = .int .i64 k ∧ ∀ j : Nat, j < k → p (atI a j) (atI b j) = true) (fun i => M - (intOf i).toNat)
    case atStart => exact ⟨0, by omega, rfl, by intro j hj; omega⟩
    case round =>
      obtain ⟨k, hk, rfl, hall⟩ := hrel
      have HA := Lib.hid hall
      clear hall hMe
      go_wp2_with (first
        | (go_at_call 19; ((with_reducible refine (at_any _ Ha.out).mono ?_); rintro e w' ⟨rfl, rfl⟩))
        | (go_at_call 19; ((with_reducible refine (at_any _ Hb.out).mono ?_); rintro e w' ⟨rfl, rfl⟩))
        | ((with_reducible refine (Hf.out _ _ _).mono ?_); rintro e w' ⟨rfl, rfl⟩))
      · have hk2 : k < M := by assumption
        have hp : (!p (atI a k) (atI b k)) = true := by assumption
        have : R = false := F2.out M k HM.out hk2 (by simpa using hp)
        subst this
        go_ret
        exact ⟨rfl, rfl⟩
      · have hk2 : k < M := by assumption
        have hp : (!p (atI a k) (atI b k)) = false := by assumption
        go_round
        case rel =>
          refine ⟨k + 1, by omega, by go_num, fun j hj => ?_⟩
          by_cases hjk : j = k
          · subst hjk; simpa using hp
          · exact HA.out j (by omega)
        case measure => simp [intOf]; omega
      · have : R = true := F1.out M HM.out (fun j hj => HA.out j (by omega))
        subst this
        go_ret
        exact ⟨rfl, rfl⟩

theorem leFn_any (x y : Int) (w : World) : Calls Try.prog 40 #[.int .u64 x, .int .u64 y] w fun e w' => e = .returned (.bool (decide (x ≤ y))) ∧ w = w' := by
  go_enter Try.func40, Try.ntmps40
  go_wp2
  go_ret
  exact ⟨rfl, rfl⟩
theorem sameFn_any (x y : Int) (w : World) : Calls Try.prog 39 #[.int .u64 x, .int .u64 y] w fun e w' => e = .returned (.bool (x == y)) ∧ w = w' := by
  go_enter Try.func39, Try.ntmps39
  go_wp2
  go_ret
  exact ⟨rfl, rfl⟩

def leB (a b : List Int) : Bool := allB (fun x y => decide (x ≤ y)) a b
def sameB (a b : List Int) : Bool := allB (fun x y => x == y) a b

theorem le_any {va vb : Value} {a b : List Int} {w : World} (ha : SlR w va (u64s a)) (hb : SlR w vb (u64s b)) :
    Calls Try.prog 20 #[va, vb] w fun e w' => e = .returned (.bool (leB a b)) ∧ w = w' := by
  have Ha := Lib.hid ha
  have Hb := Lib.hid hb
  clear ha hb
  go_enter Try.func20, Try.ntmps20
  go_wp2_with (go_at_call 38; ((with_reducible refine (all_any 40 _ leFn_any (fun _ _ => by kernel_rfl) Ha.out Hb.out).mono ?_); rintro e w' ⟨rfl, rfl⟩))
  go_ret
  exact ⟨rfl, rfl⟩
theorem same_any {va vb : Value} {a b : List Int} {w : World} (ha : SlR w va (u64s a)) (hb : SlR w vb (u64s b)) :
    Calls Try.prog 17 #[va, vb] w fun e w' => e = .returned (.bool (sameB a b)) ∧ w = w' := by
  have Ha := Lib.hid ha
  have Hb := Lib.hid hb
  clear ha hb
  go_enter Try.func17, Try.ntmps17
  go_wp2_with (go_at_call 38; ((with_reducible refine (all_any 39 _ sameFn_any (fun _ _ => by kernel_rfl) Ha.out Hb.out).mono ?_); rintro e w' ⟨rfl, rfl⟩))
  go_ret
  exact ⟨rfl, rfl⟩

/-- Behind a call that makes a row of its own: the row, and that all old memory is as it was. -/
def RetOwn (w : World) (t : TypeId) (xs : List Value) (e : Ending) (w' : World) : Prop := ∃ v, e = .returned v ∧ w'.ownsRow w.heap.size t 1 v xs.length xs ∧ Below w.heap.size w w'

set_option maxHeartbeats 400000 in
theorem clone_any {v : Value} {xs : List Int} {w : World} (h : SlR w v (u64s xs)) (hl : xs.length * 8 ≤ 140737488351232) :
    Calls Try.prog 51 #[v] w (RetOwn w 39 (u64s xs)) := by
  obtain ⟨ao, c, rfl, hc, hm, hx⟩ := h
  simp only [List.length_map] at *
  unfold maxLen at hm
  cases ao with
  | none =>
    have : xs = [] := by
      cases xs with
      | nil => rfl
      | cons x r => obtain ⟨a, ha, _⟩ := hx 0 (.int .u64 x) (by simp); cases ha
    subst this
    have hnil := fun (w : World) (n c : Nat) => Lib.run_eql_slice_nil (P := Try.prog) w 27 39 none n c 0 0 Try.underlying27
    go_enter Try.func51, Try.ntmps51
    go_wp2
    go_ret
    exact ⟨_, rfl, World.ownsRow_nil _ _ _ _, Below.refl _ _⟩
  | some a =>
    have hnil := fun (w : World) (n c : Nat) => Lib.run_eql_slice_nil (P := Try.prog) w 27 39 (some a) n c 0 0 Try.underlying27
    obtain ⟨i0, hi, hz0, hz1, hz2⟩ := info_parts Try.vecInfo
    have hcell : ∀ j u, (u64s xs)[j]? = some u → (w.alloc (.cells #[] 39)).cell? (a.add j) = some u := by
      intro j u hj
      obtain ⟨a', ha, hc⟩ := hx j u hj
      cases ha
      exact cell_alloc _ hc
    go_enter Try.func51, Try.ntmps51
    go_wp2_with (at_builtin; refine wpList_append_own _ rfl (.tmp 5) (.tmp 6) 27 rfl w.heap.size 39 i0 (.int .u64 0) 1 8 Try.underlying27 hi hz0 hz1 hz2 rfl (by decide) _ 0 [] rfl (World.ownsRow_made w #[] 0 (Nat.le_refl _) (by decide) rfl) a xs.length c (u64s xs) rfl (by simp) hcell (by intro u hu; simp at hu; obtain ⟨n, _, rfl⟩ := hu; rfl) (by unfold maxLen; omega) (by omega) (by simp) ?_)
    intro v' w' hown hg _
    have hb : Below w.heap.size w w' := ((Below.refl _ _).alloc (Nat.le_refl _) _).grown hg (by simp) (by intro k hk; simp [Value.ownBlock] at hk; omega)
    go_wp2
    go_ret
    exact ⟨v', rfl, by simpa using hown, hb⟩

/-- A row without the noughts at its end. -/
def cutI (xs : List Int) : List Int := (xs.reverse.dropWhile (· == 0)).reverse

theorem cutI_take (xs : List Int) (n : Nat) (hn : n ≤ xs.length) (h0 : ∀ j : Nat, n ≤ j → j < xs.length → atI xs j = 0) (h1 : n = 0 ∨ atI xs ((n : Int) - 1) ≠ 0) : cutI xs = xs.take n := by
  have e : xs = xs.take n ++ List.replicate (xs.length - n) 0 := by
    apply List.ext_getElem (by simp; omega)
    intro i h2 h3
    by_cases hi : i < n
    · rw [List.getElem_append_left (by simp; omega)]; simp
    · rw [List.getElem_append_right (by simp; omega)]
      have := h0 i (by omega) h2
      simp [atI, h2] at this
      simpa using this
  have e2 : (List.replicate (xs.length - n) (0 : Int)).dropWhile (· == 0) = [] := by simp
  unfold cutI
  rw [e, List.reverse_append, List.reverse_replicate, List.dropWhile_append, e2]
  simp only [List.isEmpty_nil, if_true]
  rw [List.take_append_of_le_length (by simp; omega), List.take_take, Nat.min_self]
  rcases Nat.eq_zero_or_pos n with rfl | hp
  · simp
  · have hx : atI xs ((n : Int) - 1) ≠ 0 := by rcases h1 with h1 | h1; omega; exact h1
    have : (xs.take n).reverse = xs[n-1]'(by omega) :: (xs.take (n-1)).reverse := by
      rw [show xs.take n = xs.take (n-1) ++ [xs[n-1]'(by omega)] from by rw [← List.take_succ_eq_append_getElem (by omega)]; congr 1; omega]
      simp
    rw [this, List.dropWhile_cons_of_neg]
    · rw [← this]; simp
    · have e3 : ((n : Int) - 1).toNat = n - 1 := by omega
      unfold atI at hx
      rw [if_pos (by omega), e3, List.getD, List.getElem?_eq_getElem (by omega)] at hx
      simpa using hx

set_option maxHeartbeats 400000 in
theorem cut_any {v : Value} {xs : List Int} {w : World} (h : SlR w v (u64s xs)) (hl : xs.length * 8 ≤ 140737488351232) :
    Calls Try.prog 30 #[v] w (RetOwn w 39 (u64s (cutI xs))) := by
  have H := Lib.hid h
  obtain ⟨ao, c, rfl, hc, hm, hx⟩ := h
  simp only [List.length_map] at *
  unfold maxLen at hm
  go_enter Try.func30, Try.ntmps30
  go_wp2
  go_loop [3] (fun i => ∃ k : Nat, k ≤ xs.length ∧ i = .int .i64 k ∧ ∀ j : Nat, k ≤ j → j < xs.length → atI xs j = 0) (fun i => (intOf i).toNat)
  case atStart => exact ⟨xs.length, by omega, rfl, by intro j hj; omega⟩
  case round =>
    obtain ⟨k, hk, rfl, hall⟩ := hrel
    have HA := Lib.hid hall
    clear hall
    by_cases hk0 : k = 0
    · subst hk0
      clear hx
      have hcut : cutI xs = xs.take 0 := cutI_take xs 0 (by omega) (fun j h1 h2 => HA.out j h1 h2) (Or.inl rfl)
      have hs : SlR w (.slice ao 0 0) (u64s (xs.take 0)) := by simpa using H.out.take 0 (by simp)
      have HS := Lib.hid hs
      have HC := Lib.hid hcut
      clear hs hcut
      go_wp2_with (go_at_call 51; refine (clone_any HS.out (by simp)).mono ?_; rintro e w' ⟨v', rfl, hown, hb⟩)
      go_ret
      exact ⟨v', rfl, by rw [HC.out]; exact hown, hb⟩
    · obtain ⟨b, rfl, hb⟩ := hx (k - 1) (.int .u64 (atI xs ((k : Int) - 1))) (by
        unfold atI; rw [if_pos (by omega), show ((k : Int) - 1).toNat = k - 1 by omega]; have : k - 1 < xs.length := by omega
        simp [List.getD, this])
      clear hx
      have hs : SlR w (.slice (some b) k k) (u64s (xs.take k)) := by simpa [List.map_take] using H.out.take k (by simpa using hk)
      have HS := Lib.hid hs
      clear hs
      go_wp2_with (go_at_call 51; refine (clone_any HS.out (by simp; omega)).mono ?_; rintro e w' ⟨v', rfl, hown, hbl⟩)
      · have h0 : (atI xs ((k : Int) - 1) == 0) = true := by assumption
        go_round
        case rel =>
          refine ⟨k - 1, by omega, by go_num, fun j h1 h2 => ?_⟩
          by_cases hj : j = k - 1
          · subst hj; rw [show ((k - 1 : Nat) : Int) = (k : Int) - 1 by omega]; simpa using h0
          · exact HA.out j (by omega) h2
        case measure => simp [intOf]; omega
      · have h0 : (atI xs ((k : Int) - 1) == 0) = false := by assumption
        have hcut : cutI xs = xs.take k := cutI_take xs k (by omega) (fun j h1 h2 => HA.out j h1 h2) (Or.inr (by simpa using h0))
        go_ret
        exact ⟨v', rfl, by rw [hcut]; exact hown, hbl⟩

/-- What is made of two rows at each place. -/
def combI (op : Int → Int → Int) (a b : List Int) : List Int := (List.range (max a.length b.length)).map fun (i : Nat) => op (atI a i) (atI b i)
def foldI (op : Int → Int → Int) (l : List (List Int)) : List Int :=
  match l with
  | [] => []
  | v :: r => r.foldl (combI op) v
end Go.Proofs.Ytabanackdjlcmaa
