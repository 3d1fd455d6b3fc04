/-
  Contracts of the document's answers for package learner: Gaps; rows that are the same.
-/
import Derived.Test.YtfkganccglmmlaaRef14b
namespace Go.Proofs.Ytfkganccglmmlaa
open Go.ChangeShapes Go.WideShapes Go.ChangeAt Go.RowKit Go.Maps

theorem atI_of_lt (xs : List Int) (i : Nat) (h : i < xs.length) : atI xs i = xs[i] := by simp [atI, h]
/-- The very same row. -/
theorem eqB_of {a b : List Int} (hl : a.length = b.length) (h : ∀ j : Nat, j < a.length → atI a j = atI b j) : (a == b) = true := by
  rw [beq_iff_eq]
  apply List.ext_getElem hl
  intro i h1 h2
  rw [← atI_of_lt a i h1, ← atI_of_lt b i h2]
  exact h i h1
theorem eqB_not {a b : List Int} {j : Nat} (h : atI a j ≠ atI b j) : (a == b) = false := by
  rw [beq_eq_false_iff_ne]
  intro he; subst he; exact h rfl

set_option maxHeartbeats 400000 in
theorem rsame_any {va vb : Value} {a b : List Int} {w : World} (ha : SlR w va (u64s a)) (hb : SlR w vb (u64s b)) :
    Calls Try.prog 15 #[va, vb] w fun e w' => e = .returned (.bool (a == b)) ∧ Drew w w' := by
  have F1 := Lib.hid (fun h1 h2 => eqB_of (a := a) (b := b) h1 h2)
  have F2 := Lib.hid (fun j h => eqB_not (a := a) (b := b) (j := j) h)
  have F3 : a.length ≠ b.length → (a == b) = false := by intro h; rw [beq_eq_false_iff_ne]; intro he; subst he; exact h rfl
  have F3 := Lib.hid F3
  obtain ⟨ao, ca, rfl, hca, hma, hxa⟩ := ha.intsAt
  obtain ⟨bo, cb, rfl, hcb, hmb, hxb⟩ := hb.intsAt
  generalize (a == b) = R at *
  by_cases hl : a.length = b.length
  · have hbl : b.length = a.length := hl.symm
    have HL := Lib.hid hl
    rw [hbl] at hxb ⊢
    have hne : ((a.length : Int) != (a.length : Int)) = false := by simp
    clear hl hbl
    go_enter Try.func15, Try.ntmps15
    go_wp2
    go_loopw [5] (fun i wr => ∃ k : Nat, k ≤ a.length ∧ i = .int .i64 k ∧ (∀ j : Nat, j < k → atI a j = atI b j) ∧ Drew w wr) (fun i _ => a.length - (intOf i).toNat)
    case atStart => exact ⟨0, by omega, rfl, by intro j hj; omega, Drew.refl w⟩
    case round =>
      obtain ⟨k, hk, rfl, hall, hd⟩ := hrel
      have HA := Lib.hid hall
      have HD := Lib.hid hd
      clear hall
      by_cases hlt : k < a.length
      · obtain ⟨c, rfl, hcell0⟩ := hxa k hlt
        obtain ⟨d, rfl, hcell1⟩ := hxb k hlt
        have hcell : wr.cell? (c.add k) = some (.int .u64 (atI a k)) := by
          rw [(hd.below (B := w.heap.size)).cell (World.block_lt_of_cell? w _ hcell0)]; exact hcell0
        have hcelld : wr.cell? (d.add k) = some (.int .u64 (atI b k)) := by
          rw [(hd.below (B := w.heap.size)).cell (World.block_lt_of_cell? w _ hcell1)]; exact hcell1
        clear hxa hxb hcell0 hcell1 hd
        go_wp2
        go_quiet (fail)
        go_wp2
        · have hg : (atI a k != atI b k) = true := by assumption
          have : R = false := F2.out k (by simpa using hg)
          subst this
          go_ret
          exact ⟨rfl, HD.out.drewN _⟩
        · have hg : (atI a k != atI b k) = false := by assumption
          go_roundw
          case rel =>
            refine ⟨k + 1, by omega, by go_num, fun j hj => ?_, HD.out.drewN _⟩
            by_cases hjk : j = k
            · subst hjk; simpa using hg
            · exact HA.out j (by omega)
          case measure => simp [intOf]; omega
      · have : R = true := F1.out HL.out (fun j hj => HA.out j (by omega))
        subst this
        clear hxa hxb
        go_wp2_with fail
        go_ret
        exact ⟨rfl, HD.out⟩
  · have hne : ((a.length : Int) != (b.length : Int)) = true := by simp; omega
    have : R = false := F3.out hl
    subst this
    clear hxa hxb
    go_enter Try.func15, Try.ntmps15
    go_wp2
    go_ret
    exact ⟨rfl, Drew.refl w⟩

theorem gaps_cut {m : Kn} {top n : Nat} {most : Int} (hn : n ≤ top) (h1 : ((unk m 0 n).length : Int) ≤ most ∨ unk m 0 n = []) (h2 : n = top ∨ most ≤ (unk m 0 n).length) : (unk m 0 top).take most.toNat = unk m 0 n := by
  obtain ⟨t, ht⟩ := unk_prefix m 0 hn
  rcases h2 with rfl | h2
  · rcases h1 with h1 | h1
    · exact List.take_of_length_le (by omega)
    · rw [h1]; simp
  · rcases h1 with h1 | h1
    · rw [← ht, show most.toNat = (unk m 0 n).length by omega]; simp
    · rw [h1] at h2 ⊢
      rw [show most.toNat = 0 by simpa using h2]; rfl

set_option maxHeartbeats 1000000 in
theorem rgaps_any {v : Value} {ks : KL} {w : World} {top : Nat} {most : Int} (h : KsR w v ks) (hx : IsTop (KM ks) top) (hm : most ≤ 1048576) :
    Calls Try.prog 17 #[v, .int .i64 most] w fun e w' => ∃ v', e = .returned v' ∧ SlR w' v' (u64s ((unk (KM ks) 0 top).take most.toNat)) ∧ Below w.heap.size w w' := by
  have H := Lib.hid h
  have HX := Lib.hid hx
  have ht := hx.2.1
  obtain ⟨i0, hi, hz0, hz1, hz2⟩ := info_parts Try.u64Info
  clear h hx
  go_enter Try.func17, Try.ntmps17
  go_wp2
  go_loopw [5, 6] (fun o i wr => ∃ n : Nat, n ≤ top ∧ i = .int .u64 n ∧ wr.ownsRow w.heap.size 29 1 o (unk (KM ks) 0 n).length (u64s (unk (KM ks) 0 n)) ∧ (((unk (KM ks) 0 n).length : Int) ≤ most ∨ unk (KM ks) 0 n = []) ∧ Below w.heap.size w wr) (fun _ i _ => top - (intOf i).toNat)
  case atStart => exact ⟨0, by omega, rfl, World.ownsRow_nil _ _ _ _, Or.inr rfl, Below.refl _ _⟩
  case round =>
    obtain ⟨n, hn, rfl, hown, hle, hbl⟩ := hrel
    have HO := Lib.hid hown
    have HB := Lib.hid hbl
    have HLe := Lib.hid hle
    have HC := Lib.hid (fun h2 => gaps_cut (m := KM ks) (most := most) hn hle h2)
    have hs := hbl.size
    obtain ⟨ao, c, rfl, hc1, hc2⟩ := own_slice hown
    unfold maxLen at hc2
    have HKs := Lib.hid (H.out.below hbl (Nat.le_refl _))
    have hul := unk_len (KM ks) 0 n
    obtain ⟨us, hus⟩ : ∃ us, us = unk (KM ks) 0 n := ⟨_, rfl⟩
    rw [← hus] at HO HLe HC hul hc1
    have HUs := Lib.hid hus
    rw [← hus]
    clear hown hbl hle hus
    by_cases hlt : n < top
    · by_cases hlm : (us.length : Int) < most
      · cases hk : KM ks n with
        | none =>
          have HI := Lib.hid (fI_none hk)
          have HU := Lib.hid (unk_hit (m := KM ks) (next := 0) (d := n) (by rw [show (0 : Int) + n = n by omega]; exact hk))
          clear hk
          obtain ⟨cs, hcs⟩ : ∃ cs, cs = u64s us := ⟨_, rfl⟩
          rw [← hcs] at HO
          have HCs := Lib.hid hcs
          clear hcs
          go_wp2_with (first
            | (go_at_call 14; refine (rtop_any HKs.out HX.out).mono ?_; rintro e w' ⟨rfl, rfl⟩)
            | (go_at_call 19; refine (find_any n HKs.out).mono ?_; rw [HI.out]; rintro e w' ⟨rfl, rfl⟩)
            | (at_builtin; refine wpList_app1 rfl (.tmp 23) (.tmp 25) 22 rfl w.heap.size 29 i0 (.int .u64 0) 8 Try.underlying22 hi hz0 hz1 hz2 rfl (by omega) rfl rfl HO.out rfl (by omega) hs ?_; intro g cap w' hown hb' _ _; have hown := Lib.hid hown; have hb' := Lib.hid hb'))
          go_roundw
          case rel =>
            refine ⟨n + 1, by omega, by go_num, ?_, Or.inl ?_, HB.out.trans hb'.out⟩
            · rw [HU.out, ← HUs.out]
              have := hown.out
              rw [HCs.out] at this
              simpa using this
            · rw [HU.out, ← HUs.out]; simp; omega
          case measure => simp [intOf]; omega
        | some xs =>
          obtain ⟨q, hq, _⟩ := fI_some hk
          have HI := Lib.hid hq
          have HU := Lib.hid (unk_miss (m := KM ks) (next := 0) (d := n) (xs := xs) (by rw [show (0 : Int) + n = n by omega]; exact hk))
          clear hk hq
          go_wp2_with (first
            | (go_at_call 14; refine (rtop_any HKs.out HX.out).mono ?_; rintro e w' ⟨rfl, rfl⟩)
            | (go_at_call 19; refine (find_any n HKs.out).mono ?_; rw [HI.out]; rintro e w' ⟨rfl, rfl⟩)
            | fail)
          go_roundw
          case rel =>
            refine ⟨n + 1, by omega, by go_num, ?_, ?_, HB.out⟩
            · rw [HU.out, ← HUs.out]; exact HO.out
            · rw [HU.out, ← HUs.out]; exact HLe.out
          case measure => simp [intOf]; omega
      · go_wp2_with (first
          | (go_at_call 14; refine (rtop_any HKs.out HX.out).mono ?_; rintro e w' ⟨rfl, rfl⟩)
          | fail)
        go_ret
        exact ⟨_, rfl, by rw [HC.out (Or.inr (by omega))]; exact SlR.of_own HO.out, HB.out⟩
    · go_wp2_with (first
        | (go_at_call 14; refine (rtop_any HKs.out HX.out).mono ?_; rintro e w' ⟨rfl, rfl⟩)
        | fail)
      go_ret
      exact ⟨_, rfl, by rw [HC.out (Or.inl (by omega))]; exact SlR.of_own HO.out, HB.out⟩
end Go.Proofs.Ytfkganccglmmlaa
