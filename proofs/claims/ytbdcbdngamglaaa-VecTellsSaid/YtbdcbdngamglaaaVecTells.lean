/-
  VecTells: of any two rows and any place, what package vec tells of how they stand, their sum, difference, cut and number is what the document's reference tells. No condition: every input.
-/
import Derived.Test.YtbdcbdngamglaaaVecRef3
import Derived.Test.YtbdcbdngamglaaaFrame
namespace Go.Proofs.Ytbdcbdngamglaaa
open Go.ChangeShapes Go.WideShapes Go.ChangeAt Go.RowKit

theorem u64_of_wf {xs : List Int} (h : ∀ x ∈ xs, (Lit.int .u64 x).wf = true) : U64 xs := fun x hx => by
  have := h x hx
  simp [Lit.wf, IntKind.min, IntKind.max, IntKind.signed, IntKind.bits] at this
  omega

theorem sameB_eq (a b : List Int) : sameB a b = (leB a b && leB b a) := by
  unfold sameB leB allB
  rw [Bool.eq_iff_iff, Bool.and_eq_true]
  simp only [decide_eq_true_eq, beq_iff_eq]
  constructor
  · intro h
    exact ⟨fun i hi => by have := h i hi; omega, fun i hi => by have := h i (by omega); omega⟩
  · rintro ⟨h1, h2⟩ i hi
    have := h1 i hi
    have := h2 i (by omega)
    omega

set_option maxHeartbeats 2000000 in
theorem vecTells_walk {va vb : Value} {a b : List Int} (i : Int) {W : World} (ha : SlR W va (u64s a)) (hb : SlR W vb (u64s b)) (ua : U64 a) (ub : U64 b) :
    Calls Try.prog 3 #[va, vb, .int .i64 i] W fun e W' => e = .returned (.bool true) ∧ Below W.heap.size W W' := by
  have Ha := Lib.hid ha
  have Hb := Lib.hid hb
  have Hua := Lib.hid ua
  have Hub := Lib.hid ub
  obtain ⟨ao, ca, rfl, hca, hma, _⟩ := ha.ints
  obtain ⟨bo, cb, rfl, hcb, hmb, _⟩ := hb.ints
  by_cases la : a.length ≤ 40
  · by_cases lb : b.length ≤ 40
    · go_enter Try.func3, Try.ntmps3
      go_wp2_with (go_at_call 10; refine (awake_any W).mono ?_; rintro e w1 ⟨rfl, hb1⟩; have E := Lib.hid (((Env.nil hb1).add (Hb.out.below hb1 (Nat.le_refl _))).add (Ha.out.below hb1 (Nat.le_refl _))))
      refine (sum_any (E.out.get 0 _ _ rfl) Hua.out).mono ?_
      rintro e w' ⟨rfl, rfl⟩
      go_wp2_with fail
      refine (rsum_any (E.out.get 0 _ _ rfl) Hua.out).mono ?_
      rintro e w' ⟨rfl, rfl⟩
      go_wp2_with fail
      refine (less_any (E.out.get 0 _ _ rfl) (E.out.get 1 _ _ rfl) (by omega) (by omega)).mono ?_
      rintro e w2 ⟨v2, rfl, hown2, hb2⟩
      have E := Lib.hid ((E.out.step hb2).add (SlR.of_own hown2))
      clear hown2 hb2
      go_wp2_with fail
      refine (rless_any (E.out.get 1 _ _ rfl) (E.out.get 2 _ _ rfl) Hua.out Hub.out (by omega)).mono ?_
      rintro e w3 ⟨v3, rfl, hown3, hb3⟩
      have E := Lib.hid ((E.out.step hb3).add (SlR.of_own hown3))
      clear hown3 hb3
      go_wp2_with fail
      refine (rle_any (E.out.get 2 _ _ rfl) (E.out.get 3 _ _ rfl) Hub.out).mono ?_
      rintro e w4 ⟨rfl, hd4⟩
      have E := Lib.hid (E.out.drew hd4)
      go_wp2_with fail
      refine (rle_any (E.out.get 3 _ _ rfl) (E.out.get 2 _ _ rfl) Hua.out).mono ?_
      rintro e w5 ⟨rfl, hd5⟩
      have E := Lib.hid (E.out.drew hd5)
      go_wp2_with fail
      refine (rsame_any (E.out.get 1 _ _ rfl) (E.out.get 0 _ _ rfl)).mono ?_
      rintro e w6 ⟨rfl, hd6⟩
      have E := Lib.hid (E.out.drew hd6)
      have hsb := sameB_eq a b
      have Hle := Lib.hid (le_any (E.out.get 2 _ _ rfl) (E.out.get 3 _ _ rfl))
      have Hsa := Lib.hid (same_any (E.out.get 2 _ _ rfl) (E.out.get 3 _ _ rfl))
      rw [hsb] at Hsa
      clear hd4 hd5 hd6 hsb
      generalize leB a b = R1 at *
      generalize leB b a = R2 at *
      cases R1 <;> cases R2
      all_goals
        go_wp2_with (first
          | (go_at_call 17; refine Hle.out.mono ?_; rintro e w' ⟨rfl, rfl⟩)
          | (go_at_call 18; refine Hsa.out.mono ?_; rintro e w' ⟨rfl, rfl⟩)
          | (go_at_call 19; refine (at_any i (E.out.get 2 _ _ rfl)).mono ?_; rintro e w' ⟨rfl, rfl⟩)
          | (go_at_call 20; refine (rat_any i (E.out.get 2 _ _ rfl)).mono ?_; rintro e w' ⟨rfl, rfl⟩))
        refine (cut_any (E.out.get 2 _ _ rfl) (by omega)).mono ?_
        rintro e w7 ⟨v7, rfl, hown7, hb7⟩
        have E := Lib.hid ((E.out.step hb7).add (SlR.of_own hown7))
        clear hown7 hb7
        go_wp2_with fail
        refine (rcut_any (E.out.get 3 _ _ rfl) (by omega)).mono ?_
        rintro e w8 ⟨v8, rfl, hown8, hb8⟩
        have E := Lib.hid ((E.out.step hb8).add (SlR.of_own hown8))
        clear hown8 hb8
        go_wp2_with fail
        refine (rsame_any (E.out.get 1 _ _ rfl) (E.out.get 0 _ _ rfl)).mono ?_
        rintro e w9 ⟨rfl, hd9⟩
        have E := Lib.hid (E.out.drew hd9)
        have hq : (cutI a == cutI a) = true := by simp
        rw [hq]
        clear hd9
        go_wp2_with fail
        go_ret
        exact ⟨rfl, E.out.below⟩
    · go_enter Try.func3, Try.ntmps3
      go_wp2_with (go_at_call 10; refine (awake_any W).mono ?_; rintro e w1 ⟨rfl, hb1⟩; have HB1 := Lib.hid hb1)
      go_ret
      exact ⟨rfl, HB1.out⟩
  · go_enter Try.func3, Try.ntmps3
    go_wp2_with (go_at_call 10; refine (awake_any W).mono ?_; rintro e w1 ⟨rfl, hb1⟩; have HB1 := Lib.hid hb1)
    go_ret
    exact ⟨rfl, HB1.out⟩

theorem vecTells_holds : Rows.VecTellsSaid :=
  OpenClaim.holds_of_wide 3 Try.f3 rfl rfl rfl rfl rfl rfl rfl ⟨rfl, rfl, rfl, rfl, rfl⟩ rfl rfl rfl rfl rfl (by kernel_rfl) Try.func3 (by kernel_rfl)
    (of_decide_eq_true (by kernel_rfl)) (by unfold Func.isWrapper; rw [if_neg (by decide +kernel)]; exact ⟨rfl, rfl⟩)
    (fun os started H enc _ => law_frame (C := Try.checked) (fn := Try.f3) (s := Rows.vecTellsSpec) (tb := 4) Try.own started (by kernel_rfl) Try.func3 Try.laidOut rfl (by kernel_rfl) Try.underlying4 (by kernel_rfl)
      (fun ds hd => by match ds, hd with | [_, _, _], _ => exact ⟨rfl, rfl, rfl⟩)
      (ChangeSpec.witness6 (enc := enc) (C := Try.checked) false ⟨#[], #[.slice none 0 0, .slice none 0 0, .int .i64 0], []⟩ 8 (by kernel_rfl) (by kernel_rfl) (by kernel_rfl) (by kernel_rfl))
      (fun W base args ds p hval0 hA0 _ => by
        have hval : ∀ (j : Nat) t v, Try.f3.params[j]? = some t → args[j]? = some v → Value.okWide Try.prog W .any base t v := hval0
        have hA : DataW.TrodAll enc Try.prog W 0 (fun _ => true) true Try.f3.params.toList args.toList ds p := hA0
        rw [Try.params3] at hA hval
        obtain ⟨v0, v1, v2, d0, d1, d2, p0, p1, p2, rfl, rfl, rfl, h0, h1, h2⟩ := trodAll_three hA
        obtain ⟨a, ha, wa⟩ := arg_ints Try.underlying22 Try.underlying24 (by kernel_rfl) (hval 0 22 v0 rfl rfl) h0
        obtain ⟨b, hb, wb⟩ := arg_ints Try.underlying22 Try.underlying24 (by kernel_rfl) (hval 1 22 v1 rfl rfl) h1
        obtain ⟨i, rfl, rfl, rfl, wi⟩ := open_int Try.underlying3 (hval 2 3 v2 rfl rfl) h2
        exact vecTells_walk i ha hb (u64_of_wf wa) (u64_of_wf wb)))

end Go.Proofs.Ytbdcbdngamglaaa
