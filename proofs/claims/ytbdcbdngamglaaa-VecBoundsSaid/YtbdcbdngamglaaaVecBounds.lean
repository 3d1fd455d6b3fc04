/-
  VecBounds: of any rows, the least and the greatest at each place are the document's reference's. No condition: every input.
-/
import Derived.Test.YtbdcbdngamglaaaPlain2
import Derived.Test.YtbdcbdngamglaaaFrame
namespace Go.Proofs.Ytbdcbdngamglaaa
open Go.ChangeShapes Go.WideShapes Go.ChangeAt Go.RowKit

theorem opOf_false : opOf false = (min : Int → Int → Int) := rfl
theorem opOf_true : opOf true = (max : Int → Int → Int) := rfl

set_option maxHeartbeats 2000000 in
theorem vecBounds_walk {v : Value} {L : List (List Int)} {W : World} (hr : RowsR W v L) (_ : ∀ r ∈ L, U64 r) :
    Calls Try.prog 4 #[v] W fun e W' => e = .returned (.bool true) ∧ Below W.heap.size W W' := by
  have H := Lib.hid hr
  obtain ⟨ao, c, rfl, hm, hx⟩ := hr.row
  by_cases hl : L.length ≤ 10
  · go_enter Try.func4, Try.ntmps4
    go_wp2_with (go_at_call 10; refine (awake_any W).mono ?_; rintro e w1 ⟨rfl, hb1⟩; have HB := Lib.hid hb1; have HR := Lib.hid (H.out.below hb1 (Nat.le_refl _)))
    obtain ⟨ao', c', hv', _, hx1⟩ := HR.out.row
    cases hv'
    clear hx
    go_loop [4] (fun i => ∃ k : Nat, k ≤ L.length ∧ i = .int .i64 k ∧ ∀ j (hj : j < L.length), j < k → L[j].length ≤ 40) (fun i => L.length - (intOf i).toNat)
    case atStart => exact ⟨0, by omega, rfl, by intro j hj h; omega⟩
    case round =>
      obtain ⟨k, hk, rfl, hall⟩ := hrel
      have HA := Lib.hid hall
      clear hall
      by_cases hlt : k < L.length
      · obtain ⟨a, u, rfl, hcell, hrow⟩ := hx1 k hlt
        obtain ⟨r, hrl⟩ : ∃ r, r = L[k] := ⟨_, rfl⟩
        rw [← hrl] at hrow
        obtain ⟨bo, cb, rfl, hcb, hmb, _⟩ := hrow.ints
        have HRl := Lib.hid hrl
        clear hx1 hrow hrl
        by_cases h40 : r.length ≤ 40
        · go_wp2
          go_round
          case rel =>
            refine ⟨k + 1, by omega, by go_num, fun j hj h => ?_⟩
            by_cases hjk : j = k
            · subst hjk; rw [← HRl.out]; exact h40
            · exact HA.out j hj (by omega)
          case measure => simp [intOf]; omega
        · go_wp2
          go_ret
          exact ⟨rfl, HB.out⟩
      · clear hx1
        have hlen : ∀ r ∈ L, r.length ≤ 40 := fun r hr => by
          obtain ⟨j, hj, rfl⟩ := List.getElem_of_mem hr
          exact HA.out j hj (by omega)
        have HL := Lib.hid hlen
        clear hlen
        go_wp2_with fail
        refine (min_any HR.out (fun r hr => by have := HL.out r hr; omega)).mono ?_
        rintro e w2 ⟨v2, rfl, hown2, hb2⟩
        have HR2 := Lib.hid (HR.out.below hb2 (Nat.le_refl _))
        have E := Lib.hid (((Env.nil HB.out).step hb2).add (SlR.of_own hown2))
        clear hown2 hb2
        go_wp2_with fail
        refine (least_any false HR2.out (fun r hr => by have := HL.out r hr; omega)).mono ?_
        rintro e w3 ⟨v3, rfl, hown3, hb3⟩
        have HR3 := Lib.hid (HR2.out.below hb3 (Nat.le_refl _))
        have E := Lib.hid ((E.out.step hb3).add (SlR.of_own hown3))
        clear hown3 hb3
        go_wp2_with fail
        refine (rsame_any (E.out.get 1 _ _ rfl) (E.out.get 0 _ _ rfl)).mono ?_
        rintro e w4 ⟨rfl, hd4⟩
        have hq : (minI L == cutI (foldI (opOf false) L)) = true := by rw [opOf_false]; simp [minI]
        rw [hq]
        have HR4 := Lib.hid (HR3.out.below (B := w3.heap.size) hd4.below (Nat.le_refl _))
        have E := Lib.hid (E.out.drew hd4)
        clear hd4 hq
        go_wp2_with fail
        refine (max_any HR4.out (fun r hr => by have := HL.out r hr; omega)).mono ?_
        rintro e w5 ⟨v5, rfl, hown5, hb5⟩
        have HR5 := Lib.hid (HR4.out.below hb5 (Nat.le_refl _))
        have E := Lib.hid ((E.out.step hb5).add (SlR.of_own hown5))
        clear hown5 hb5
        go_wp2_with fail
        refine (least_any true HR5.out (fun r hr => by have := HL.out r hr; omega)).mono ?_
        rintro e w6 ⟨v6, rfl, hown6, hb6⟩
        have E := Lib.hid ((E.out.step hb6).add (SlR.of_own hown6))
        clear hown6 hb6
        go_wp2_with fail
        refine (rsame_any (E.out.get 1 _ _ rfl) (E.out.get 0 _ _ rfl)).mono ?_
        rintro e w7 ⟨rfl, hd7⟩
        have hq : (maxI L == cutI (foldI (opOf true) L)) = true := by rw [opOf_true]; simp [maxI]
        rw [hq]
        have E := Lib.hid (E.out.drew hd7)
        clear hd7 hq
        go_wp2_with fail
        go_ret
        exact ⟨rfl, E.out.below⟩
  · clear hx
    go_enter Try.func4, Try.ntmps4
    go_wp2_with (go_at_call 10; refine (awake_any W).mono ?_; rintro e w1 ⟨rfl, hb1⟩; have HB1 := Lib.hid hb1)
    go_ret
    exact ⟨rfl, HB1.out⟩

theorem vecBounds_holds : Rows.VecBoundsSaid :=
  OpenClaim.holds_of_wide 4 Try.f4 rfl rfl rfl rfl rfl rfl rfl ⟨rfl, rfl, rfl, rfl, rfl⟩ rfl rfl rfl rfl rfl (by kernel_rfl) Try.func4 (by kernel_rfl)
    (of_decide_eq_true (by kernel_rfl)) (by unfold Func.isWrapper; rw [if_neg (by decide +kernel)]; exact ⟨rfl, rfl⟩)
    (fun os started H enc _ => law_frame (C := Try.checked) (fn := Try.f4) (s := Rows.vecBoundsSpec) (tb := 4) Try.own started (by kernel_rfl) Try.func4 Try.laidOut rfl (by kernel_rfl) Try.underlying4 (by kernel_rfl)
      (fun ds hd => by match ds, hd with | [_], _ => exact ⟨rfl, rfl, rfl⟩)
      (ChangeSpec.witness6 (enc := enc) (C := Try.checked) false ⟨#[], #[.slice none 0 0], []⟩ 8 (by kernel_rfl) (by kernel_rfl) (by kernel_rfl) (by kernel_rfl))
      (fun W base args ds p hval0 hA0 _ => by
        have hval : ∀ (j : Nat) t v, Try.f4.params[j]? = some t → args[j]? = some v → Value.okWide Try.prog W .any base t v := hval0
        have hA : DataW.TrodAll enc Try.prog W 0 (fun _ => true) true Try.f4.params.toList args.toList ds p := hA0
        rw [Try.params4] at hA hval
        obtain ⟨v0, d0, rfl, rfl, h0⟩ := trodAll_one hA
        obtain ⟨x0, hx0, wx0⟩ := arg_rows Try.underlying34 Try.underlying22 Try.underlying24 (by kernel_rfl) (by kernel_rfl) (hval 0 34 v0 rfl rfl) h0
        exact vecBounds_walk hx0 wx0))

end Go.Proofs.Ytbdcbdngamglaaa
