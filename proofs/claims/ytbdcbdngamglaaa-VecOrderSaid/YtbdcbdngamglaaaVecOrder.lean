/-
  VecOrder: of any three rows: what is below two rows is below their least, what is above them above their greatest; rows that are below one another are the same; below is passed on. No condition: every input.
-/
import Derived.Test.YtbdcbdngamglaaaPlain2
import Derived.Test.YtbdcbdngamglaaaFrame
namespace Go.Proofs.Ytbdcbdngamglaaa
open Go.ChangeShapes Go.WideShapes Go.ChangeAt Go.RowKit

set_option maxHeartbeats 4000000 in
theorem vecOrder_in {va vb vc : Value} {a b c : List Int} {W : World} (ha : SlR W va (u64s a)) (hb : SlR W vb (u64s b)) (hc : SlR W vc (u64s c)) (la : a.length ≤ 30) (lb : b.length ≤ 30) (lc : c.length ≤ 30) :
    Calls Try.prog 5 #[va, vb, vc] W fun e W' => e = .returned (.bool true) ∧ Below W.heap.size W W' := by
  have Ha := Lib.hid ha
  have Hb := Lib.hid hb
  have Hc := Lib.hid hc
  obtain ⟨ao, ca, rfl, hca, hma, _⟩ := ha.ints
  obtain ⟨bo, cb, rfl, hcb, hmb, _⟩ := hb.ints
  obtain ⟨co, cc, rfl, hcc, hmc, _⟩ := hc.ints
  go_enter Try.func5, Try.ntmps5
  go_wp2_with (go_at_call 10; refine (awake_any W).mono ?_; rintro e w1 ⟨rfl, hb1⟩; have E := Lib.hid ((((Env.nil hb1).add (Hc.out.below hb1 (Nat.le_refl _))).add (Hb.out.below hb1 (Nat.le_refl _))).add (Ha.out.below hb1 (Nat.le_refl _))))
  refine (min_any (rowsR_pair (E.out.get 0 _ _ rfl) (E.out.get 1 _ _ rfl)) (by simp; omega)).mono ?_
  rintro e w2 ⟨v2, rfl, hown2, hb2⟩
  have hb2' : Below w1.heap.size w1 w2 := ((Below.refl _ _).alloc (Nat.le_refl _) _).trans (hb2.mono (by simp))
  have E := Lib.hid ((E.out.step hb2').add (SlR.of_own hown2))
  clear hown2 hb2 hb2'
  go_wp2_with fail
  refine (max_any (rowsR_pair (E.out.get 1 _ _ rfl) (E.out.get 2 _ _ rfl)) (by simp; omega)).mono ?_
  rintro e w3 ⟨v3, rfl, hown3, hb3⟩
  have hb3' : Below w2.heap.size w2 w3 := ((Below.refl _ _).alloc (Nat.le_refl _) _).trans (hb3.mono (by simp))
  have E := Lib.hid ((E.out.step hb3').add (SlR.of_own hown3))
  clear hown3 hb3 hb3'
  have gma := le_any (E.out.get 1 _ _ rfl) (E.out.get 2 _ _ rfl)
  have gmb := le_any (E.out.get 1 _ _ rfl) (E.out.get 3 _ _ rfl)
  have gax := le_any (E.out.get 2 _ _ rfl) (E.out.get 0 _ _ rfl)
  have gbx := le_any (E.out.get 3 _ _ rfl) (E.out.get 0 _ _ rfl)
  have gca := Lib.hid (le_any (E.out.get 4 _ _ rfl) (E.out.get 2 _ _ rfl))
  have gcb := Lib.hid (le_any (E.out.get 4 _ _ rfl) (E.out.get 3 _ _ rfl))
  have gac := Lib.hid (le_any (E.out.get 2 _ _ rfl) (E.out.get 4 _ _ rfl))
  have gbc := Lib.hid (le_any (E.out.get 3 _ _ rfl) (E.out.get 4 _ _ rfl))
  have gab := Lib.hid (le_any (E.out.get 2 _ _ rfl) (E.out.get 3 _ _ rfl))
  have gba := Lib.hid (le_any (E.out.get 3 _ _ rfl) (E.out.get 2 _ _ rfl))
  have gcm := le_any (E.out.get 4 _ _ rfl) (E.out.get 1 _ _ rfl)
  have gxc := le_any (E.out.get 0 _ _ rfl) (E.out.get 4 _ _ rfl)
  have gsa := same_any (E.out.get 2 _ _ rfl) (E.out.get 3 _ _ rfl)
  rw [min2_le_l] at gma
  rw [min2_le_r] at gmb
  rw [le_max2_l] at gax
  rw [le_max2_r] at gbx
  rw [le_min2] at gcm
  rw [max2_le] at gxc
  rw [sameB_eq] at gsa
  have gma := Lib.hid gma
  have gmb := Lib.hid gmb
  have gax := Lib.hid gax
  have gbx := Lib.hid gbx
  have gcm := Lib.hid gcm
  have gxc := Lib.hid gxc
  have gsa := Lib.hid gsa
  have htr : leB a b = true → leB b c = true → leB a c = false → False := fun h1 h2 h3 => by rw [le_tr h1 h2] at h3; cases h3
  generalize leB c a = R1 at *
  generalize leB c b = R2 at *
  generalize leB a c = R3 at *
  generalize leB b c = R4 at *
  generalize leB a b = R5 at *
  generalize leB b a = R6 at *
  cases R1 <;> cases R3 <;> cases R5 <;> cases R4
  all_goals first
    | exact (htr rfl rfl rfl).elim
    | (clear htr
       go_wp2_with (first
        | (go_at_call 17; first
            | ((with_reducible refine gma.out.mono ?_); rintro e w' ⟨rfl, rfl⟩)
            | ((with_reducible refine gmb.out.mono ?_); rintro e w' ⟨rfl, rfl⟩)
            | ((with_reducible refine gax.out.mono ?_); rintro e w' ⟨rfl, rfl⟩)
            | ((with_reducible refine gbx.out.mono ?_); rintro e w' ⟨rfl, rfl⟩)
            | ((with_reducible refine gca.out.mono ?_); rintro e w' ⟨rfl, rfl⟩)
            | ((with_reducible refine gcb.out.mono ?_); rintro e w' ⟨rfl, rfl⟩)
            | ((with_reducible refine gac.out.mono ?_); rintro e w' ⟨rfl, rfl⟩)
            | ((with_reducible refine gbc.out.mono ?_); rintro e w' ⟨rfl, rfl⟩)
            | ((with_reducible refine gab.out.mono ?_); rintro e w' ⟨rfl, rfl⟩)
            | ((with_reducible refine gba.out.mono ?_); rintro e w' ⟨rfl, rfl⟩)
            | ((with_reducible refine gcm.out.mono ?_); rintro e w' ⟨rfl, rfl⟩)
            | ((with_reducible refine gxc.out.mono ?_); rintro e w' ⟨rfl, rfl⟩))
        | (go_at_call 18; ((with_reducible refine gsa.out.mono ?_); rintro e w' ⟨rfl, rfl⟩)))
       go_ret
       exact ⟨rfl, E.out.below⟩)

set_option maxHeartbeats 1000000 in
theorem vecOrder_walk {va vb vc : Value} {a b c : List Int} {W : World} (ha : SlR W va (u64s a)) (_ : ∀ x ∈ a, (Lit.int .u64 x).wf = true) (hb : SlR W vb (u64s b)) (_ : ∀ x ∈ b, (Lit.int .u64 x).wf = true) (hc : SlR W vc (u64s c)) (_ : ∀ x ∈ c, (Lit.int .u64 x).wf = true) :
    Calls Try.prog 5 #[va, vb, vc] W fun e W' => e = .returned (.bool true) ∧ Below W.heap.size W W' := by
  by_cases la : a.length ≤ 30
  · by_cases lb : b.length ≤ 30
    · by_cases lc : c.length ≤ 30
      · exact vecOrder_in ha hb hc la lb lc
      · obtain ⟨ao, ca, rfl, hca, hma, _⟩ := ha.ints
        obtain ⟨bo, cb, rfl, hcb, hmb, _⟩ := hb.ints
        obtain ⟨co, cc, rfl, hcc, hmc, _⟩ := hc.ints
        go_enter Try.func5, Try.ntmps5
        go_wp2_with (go_at_call 10; refine (awake_any W).mono ?_; rintro e w1 ⟨rfl, hb1⟩; have HB1 := Lib.hid hb1)
        go_ret
        exact ⟨rfl, HB1.out⟩
    · obtain ⟨ao, ca, rfl, hca, hma, _⟩ := ha.ints
      obtain ⟨bo, cb, rfl, hcb, hmb, _⟩ := hb.ints
      go_enter Try.func5, Try.ntmps5
      go_wp2_with (go_at_call 10; refine (awake_any W).mono ?_; rintro e w1 ⟨rfl, hb1⟩; have HB1 := Lib.hid hb1)
      go_ret
      exact ⟨rfl, HB1.out⟩
  · obtain ⟨ao, ca, rfl, hca, hma, _⟩ := ha.ints
    go_enter Try.func5, Try.ntmps5
    go_wp2_with (go_at_call 10; refine (awake_any W).mono ?_; rintro e w1 ⟨rfl, hb1⟩; have HB1 := Lib.hid hb1)
    go_ret
    exact ⟨rfl, HB1.out⟩

theorem vecOrder_holds : Rows.VecOrderSaid :=
  OpenClaim.holds_of_wide 5 Try.f5 rfl rfl rfl rfl rfl rfl rfl ⟨rfl, rfl, rfl, rfl, rfl⟩ rfl rfl rfl rfl rfl (by kernel_rfl) Try.func5 (by kernel_rfl)
    (of_decide_eq_true (by kernel_rfl)) (by unfold Func.isWrapper; rw [if_neg (by decide +kernel)]; exact ⟨rfl, rfl⟩)
    (fun os started H enc _ => law_frame (C := Try.checked) (fn := Try.f5) (s := Rows.vecOrderSpec) (tb := 4) Try.own started (by kernel_rfl) Try.func5 Try.laidOut rfl (by kernel_rfl) Try.underlying4 (by kernel_rfl)
      (fun ds hd => by match ds, hd with | [_, _, _], _ => exact ⟨rfl, rfl, rfl⟩)
      (ChangeSpec.witness6 (enc := enc) (C := Try.checked) false ⟨#[], #[.slice none 0 0, .slice none 0 0, .slice none 0 0], []⟩ 8 (by kernel_rfl) (by kernel_rfl) (by kernel_rfl) (by kernel_rfl))
      (fun W base args ds p hval0 hA0 _ => by
        have hval : ∀ (j : Nat) t v, Try.f5.params[j]? = some t → args[j]? = some v → Value.okWide Try.prog W .any base t v := hval0
        have hA : DataW.TrodAll enc Try.prog W 0 (fun _ => true) true Try.f5.params.toList args.toList ds p := hA0
        rw [Try.params5] at hA hval
        obtain ⟨v0, v1, v2, d0, d1, d2, p0, p1, p2, rfl, rfl, rfl, h0, h1, h2⟩ := trodAll_three hA
        obtain ⟨x0, hx0, wx0⟩ := arg_ints Try.underlying22 Try.underlying24 (by kernel_rfl) (hval 0 22 v0 rfl rfl) h0
        obtain ⟨x1, hx1, wx1⟩ := arg_ints Try.underlying22 Try.underlying24 (by kernel_rfl) (hval 1 22 v1 rfl rfl) h1
        obtain ⟨x2, hx2, wx2⟩ := arg_ints Try.underlying22 Try.underlying24 (by kernel_rfl) (hval 2 22 v2 rfl rfl) h2
        exact vecOrder_walk hx0 wx0 hx1 wx1 hx2 wx2))

end Go.Proofs.Ytbdcbdngamglaaa
