/-
  Contracts of the document's answers for package vec, where package vec's Less is not reached.
-/
import Derived.Test.YtabanackdjlcmaaPlain2
import Derived.Test.YtabanackdjlcmaaSumV
namespace Go.Proofs.Ytabanackdjlcmaa
open Go.RowKit

set_option maxHeartbeats 400000 in
theorem rat_any {v : Value} {xs : List Int} {w : World} (i : Int) (h : SlR w v (u64s xs)) :
    Calls Try.prog 56 #[v, .int .i64 i] w fun e w' => e = .returned (.int .u64 (atI xs i)) ∧ w = w' := by
  obtain ⟨ao, c, rfl, hc, hm, hx⟩ := h.ints
  by_cases h0 : 0 ≤ i
  · by_cases h1 : i < xs.length
    · have hl : i.toNat < xs.length := by omega
      obtain ⟨b, rfl, hb⟩ := hx i.toNat hl
      have e : xs[i.toNat] = atI xs i := by simp [atI, h0, hl]
      rw [e] at hb
      generalize atI xs i = x at *
      clear hx e
      go_enter Try.func56, Try.ntmps56
      go_wp2
      go_ret
      exact ⟨rfl, rfl⟩
    · have : atI xs i = 0 := by unfold atI; rw [if_pos h0]; simp; rw [List.getElem?_eq_none (by omega)]; rfl
      rw [this]
      clear this
      go_enter Try.func56, Try.ntmps56
      go_wp2
      go_ret
      exact ⟨rfl, rfl⟩
  · have : atI xs i = 0 := by unfold atI; rw [if_neg h0]
    rw [this]
    clear this
    have h1 : i < 0 := by omega
    go_enter Try.func56, Try.ntmps56
    go_wp2
    go_ret
    exact ⟨rfl, rfl⟩

theorem leB_of {a b : List Int} (hb : U64 b) (h : ∀ j : Nat, j < a.length → atI a j ≤ atI b j) : leB a b = true := by
  unfold leB allB
  refine decide_eq_true fun i _ => decide_eq_true ?_
  by_cases hi : i < a.length
  · exact h i hi
  · rw [atI_of_ge a i (by omega)]; exact (hb.at i).1
theorem leB_not {a b : List Int} {j : Nat} (hj : j < a.length) (h : atI b j < atI a j) : leB a b = false := by
  unfold leB allB
  refine decide_eq_false fun hh => ?_
  have := of_decide_eq_true (hh j (by omega))
  omega

set_option maxHeartbeats 400000 in
theorem rle_any {va vb : Value} {a b : List Int} {w : World} (ha : SlR w va (u64s a)) (hb : SlR w vb (u64s b)) (hu : U64 b) :
    Calls Try.prog 35 #[va, vb] w fun e w' => e = .returned (.bool (leB a b)) ∧ Drew w w' := by
  have F1 := Lib.hid (fun h => leB_of (a := a) hu h)
  have F2 := Lib.hid (fun j hj h => leB_not (a := a) (b := b) (j := j) hj h)
  have Hb := Lib.hid hb
  clear hu
  obtain ⟨ao, ca, rfl, hca, hma, hxa⟩ := ha.ints
  obtain ⟨bo, cb, rfl, _⟩ := hb.ints
  generalize leB a b = R at *
  go_enter Try.func35, Try.ntmps35
  go_wp2
  go_loopw [5] (fun i wr => ∃ k : Nat, k ≤ a.length ∧ i = .int .i64 k ∧ (∀ j : Nat, j < k → atI a j ≤ atI b j) ∧ Drew w wr) (fun i _ => a.length - (intOf i).toNat)
  case atStart => exact ⟨0, by omega, rfl, by intro j hj; omega, Drew.refl w⟩
  case round =>
    obtain ⟨k, hk, rfl, hall, hd⟩ := hrel
    have HA := Lib.hid hall
    have HD := Lib.hid hd
    have HB := Lib.hid (Hb.out.drew hd)
    clear hall
    by_cases hlt : k < a.length
    · obtain ⟨c, rfl, hcell0⟩ := hxa k hlt
      have hcell : wr.cell? (c.add k) = some (.int .u64 (atI a k)) := by
        rw [atI_of_lt a k hlt, (hd.below (B := w.heap.size)).cell (World.block_lt_of_cell? w _ hcell0)]; exact hcell0
      clear hxa hcell0 hd
      go_wp2
      go_quiet ((go_at_call 56; exact quiet_same (rat_any _ (HB.out.drewN _))))
      go_wp2
      · have hg : atI b k < atI a k := by assumption
        have : R = false := F2.out k hlt hg
        subst this
        go_ret
        exact ⟨rfl, HD.out.drewN _⟩
      · go_roundw
        case rel =>
          refine ⟨k + 1, by omega, by go_num, fun j hj => ?_, HD.out.drewN _⟩
          by_cases hjk : j = k
          · subst hjk; omega
          · exact HA.out j (by omega)
        case measure => simp [intOf]; omega
    · have : R = true := F1.out (fun j hj => HA.out j (by omega))
      subst this
      go_wp2_with fail
      go_ret
      exact ⟨rfl, HD.out⟩

/-- The very same row. -/
theorem eqB_of {a b : List Int} (hl : a.length = b.length) (h : ∀ j : Nat, j < a.length → atI a j = atI b j) : (a == b) = true := by
  rw [beq_iff_eq]
  apply List.ext_getElem hl
  intro i h1 h2
  rw [← atI_of_lt a i h1, ← atI_of_lt b i h2]
  exact h i h1
theorem eqB_not {a b : List Int} {j : Nat} (h : atI a j ≠ atI b j) : (a == b) = false := by
  rw [beq_eq_false_iff_ne]
  intro he; subst he; exact h rfl

set_option maxHeartbeats 400000 in
theorem rsame_any {va vb : Value} {a b : List Int} {w : World} (ha : SlR w va (u64s a)) (hb : SlR w vb (u64s b)) :
    Calls Try.prog 34 #[va, vb] w fun e w' => e = .returned (.bool (a == b)) ∧ Drew w w' := by
  have F1 := Lib.hid (fun h1 h2 => eqB_of (a := a) (b := b) h1 h2)
  have F2 := Lib.hid (fun j h => eqB_not (a := a) (b := b) (j := j) h)
  have F3 : a.length ≠ b.length → (a == b) = false := by intro h; rw [beq_eq_false_iff_ne]; intro he; subst he; exact h rfl
  have F3 := Lib.hid F3
  obtain ⟨ao, ca, rfl, hca, hma, hxa⟩ := ha.intsAt
  obtain ⟨bo, cb, rfl, hcb, hmb, hxb⟩ := hb.intsAt
  generalize (a == b) = R at *
  by_cases hl : a.length = b.length
  · have hbl : b.length = a.length := hl.symm
    have HL := Lib.hid hl
    rw [hbl] at hxb ⊢
    have hne : ((a.length : Int) != (a.length : Int)) = false := by simp
    clear hl hbl
    go_enter Try.func34, Try.ntmps34
    go_wp2
    go_loopw [5] (fun i wr => ∃ k : Nat, k ≤ a.length ∧ i = .int .i64 k ∧ (∀ j : Nat, j < k → atI a j = atI b j) ∧ Drew w wr) (fun i _ => a.length - (intOf i).toNat)
    case atStart => exact ⟨0, by omega, rfl, by intro j hj; omega, Drew.refl w⟩
    case round =>
      obtain ⟨k, hk, rfl, hall, hd⟩ := hrel
      have HA := Lib.hid hall
      have HD := Lib.hid hd
      clear hall
      by_cases hlt : k < a.length
      · obtain ⟨c, rfl, hcell0⟩ := hxa k hlt
        obtain ⟨d, rfl, hcell1⟩ := hxb k hlt
        have hcell : wr.cell? (c.add k) = some (.int .u64 (atI a k)) := by
          rw [(hd.below (B := w.heap.size)).cell (World.block_lt_of_cell? w _ hcell0)]; exact hcell0
        have hcelld : wr.cell? (d.add k) = some (.int .u64 (atI b k)) := by
          rw [(hd.below (B := w.heap.size)).cell (World.block_lt_of_cell? w _ hcell1)]; exact hcell1
        clear hxa hxb hcell0 hcell1 hd
        go_wp2
        go_quiet (fail)
        go_wp2
        · have hg : (atI a k != atI b k) = true := by assumption
          have : R = false := F2.out k (by simpa using hg)
          subst this
          go_ret
          exact ⟨rfl, HD.out.drewN _⟩
        · have hg : (atI a k != atI b k) = false := by assumption
          go_roundw
          case rel =>
            refine ⟨k + 1, by omega, by go_num, fun j hj => ?_, HD.out.drewN _⟩
            by_cases hjk : j = k
            · subst hjk; simpa using hg
            · exact HA.out j (by omega)
          case measure => simp [intOf]; omega
      · have : R = true := F1.out HL.out (fun j hj => HA.out j (by omega))
        subst this
        clear hxa hxb
        go_wp2_with fail
        go_ret
        exact ⟨rfl, HD.out⟩
  · have hne : ((a.length : Int) != (b.length : Int)) = true := by simp; omega
    have : R = false := F3.out hl
    subst this
    clear hxa hxb
    go_enter Try.func34, Try.ntmps34
    go_wp2
    go_ret
    exact ⟨rfl, Drew.refl w⟩
end Go.Proofs.Ytabanackdjlcmaa
