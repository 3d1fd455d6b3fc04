/-
  VecCuts: of any row and any number of noughts behind it: noughts at the end play no part; a row that is cut is the shortest one that is the same. No condition: every input.
-/
import Derived.Test.YtbdcbdngamglaaaPlain2
import Derived.Test.YtbdcbdngamglaaaLib2
import Derived.Test.YtbdcbdngamglaaaFrame
namespace Go.Proofs.Ytbdcbdngamglaaa
open Go.ChangeShapes Go.WideShapes Go.ChangeAt Go.RowKit

theorem u64s_one (xs : List Int) : ∀ u ∈ u64s xs, u.oneCell' = true := by intro u hu; simp at hu; obtain ⟨n, _, rfl⟩ := hu; rfl
theorem cutI_zeros (ys : List Int) (n : Nat) : cutI (ys ++ List.replicate n 0) = cutI ys := by
  induction n with
  | zero => simp
  | succ n ih => rw [List.replicate_succ', ← List.append_assoc, cutI_snoc_zero, ih]
theorem cutI_last : ∀ (n : Nat) (ys : List Int), ys.length = n → 0 < (cutI ys).length → atI (cutI ys) ((cutI ys).length - 1 : Nat) ≠ 0
  | 0, ys, hn, h => by
    have : ys = [] := List.eq_nil_of_length_eq_zero hn
    subst this; simp [cutI_nil] at h
  | n + 1, ys, hn, h => by
    have hne : ys ≠ [] := by intro h0; subst h0; simp at hn
    have hd := List.dropLast_concat_getLast hne
    generalize hx : ys.getLast hne = x at hd
    by_cases h0 : x = 0
    · rw [← hd, h0, cutI_snoc_zero] at h ⊢
      exact cutI_last n ys.dropLast (by simp; omega) h
    · rw [← hd, cutI_snoc _ _ h0, atI_of_lt _ _ (by simp)]; simpa using h0

set_option maxHeartbeats 2000000 in
theorem vecCuts_in {v : Value} {xs : List Int} (t : Nat) {W : World} (hv : SlR W v (u64s xs)) (lx : xs.length ≤ 40) (ht : t ≤ 255) :
    Calls Try.prog 8 #[v, .int .u8 t] W fun e W' => e = .returned (.bool true) ∧ Below W.heap.size W W' := by
  have H := Lib.hid hv
  obtain ⟨i0, hi, hz0, hz1, hz2⟩ := info_parts Try.vecInfo
  obtain ⟨ao, c, rfl, hc, hm, _⟩ := hv.ints
  have hl := u64s_one xs
  have hll : (u64s xs).length = xs.length := by simp
  have hlen : 0 + (u64s xs).length ≤ 1099511627776 := by rw [hll]; omega
  obtain ⟨cs, hcs⟩ : ∃ cs, cs = u64s xs := ⟨_, rfl⟩
  rw [← hcs] at H hl hlen hll
  have HCs := Lib.hid hcs
  have HL := Lib.hid hl
  have HLL := Lib.hid hll
  clear hcs hv hl hll
  go_enter Try.func8, Try.ntmps8
  go_wp2_with (first
    | (go_at_call 10; refine (awake_any W).mono ?_; rintro e w1 ⟨rfl, hb1⟩; have E := Lib.hid ((Env.nil hb1).add (H.out.below hb1 (Nat.le_refl _))))
    | (at_builtin; refine wpList_appSrc rfl (.tmp 16) (.tmp 17) 22 rfl w1.heap.size 24 i0 (.int .u64 0) 8 Try.underlying22 hi hz0 hz1 hz2 rfl (by omega) rfl rfl (World.ownsRow_nil w1 w1.heap.size 24 1) (E.out.get 0 _ _ rfl) HL.out hlen (Nat.le_refl _) ?_; intro va w2 hown hb2 _ _ _; have hown := Lib.hid hown; have hb2 := Lib.hid hb2))
  go_loopw [7, 6] (fun i o wr => ∃ j : Nat, j ≤ t % 6 ∧ i = .int .i64 j ∧ wr.ownsRow w1.heap.size 24 1 o (xs.length + j) (u64s (xs ++ List.replicate j 0)) ∧ Below w1.heap.size w1 wr) (fun i _ _ => t % 6 - (intOf i).toNat)
  case atStart => exact ⟨0, by omega, rfl, by have h := hown.out; rw [HLL.out, HCs.out] at h; simpa using h, hb2.out⟩
  case round =>
    obtain ⟨j, hj, rfl, hown, hbl⟩ := hrel
    by_cases hlt : j < t % 6
    · obtain ⟨ds, hds⟩ : ∃ ds, ds = u64s (xs ++ List.replicate j 0) := ⟨_, rfl⟩
      rw [← hds] at hown
      have HDs := Lib.hid hds
      have HO := Lib.hid hown
      have HB := Lib.hid hbl
      have hbs := hbl.size
      clear hown hbl hds
      go_wp2_with (at_builtin; refine app_u64 rfl (.tmp 26) (.tmp 27) rfl rfl rfl HO.out (by omega) hbs ?_; intro g cap w' hown hb' _ _; have hown := Lib.hid hown)
      go_roundw
      case rel => exact ⟨j + 1, by omega, by go_num, by have := hown.out; rw [HDs.out] at this; simpa [List.replicate_succ', Nat.add_assoc] using this, HB.out.trans hb'⟩
      case measure => simp [intOf]; omega
    · have hj6 : j ≤ 5 := by omega
      have HZ := Lib.hid (cutI_zeros xs j)
      have f1 : sameB (xs ++ List.replicate j 0) xs = true := same_iff.2 fun i => atI_pad _ _ _
      have f2 : sameB (cutI xs) xs = true := same_iff.2 fun i => atI_cut _ _
      have f3 : leB (xs ++ List.replicate j 0) (cutI xs) = true := le_iff.2 fun i => by rw [atI_pad, atI_cut]; exact Int.le_refl _
      have f4 : leB (cutI xs) (xs ++ List.replicate j 0) = true := le_iff.2 fun i => by rw [atI_pad, atI_cut]; exact Int.le_refl _
      have hzl : (xs ++ List.replicate j (0 : Int)).length = xs.length + j := by simp
      have E := Lib.hid ((E.out.step hbl).add (SlR.of_own hown))
      rw [HCs.out] at E
      obtain ⟨az, cz, rfl, hcz1, hcz2⟩ := own_slice hown
      have F1 := Lib.hid f1
      have F2 := Lib.hid f2
      have F3 := Lib.hid f3
      have F4 := Lib.hid f4
      clear hown hbl f1 f2 f3 f4
      generalize xs ++ List.replicate j 0 = zs at *
      have HZL := Lib.hid hzl
      clear hzl
      have hcl := cutI_len xs
      have hlast := cutI_last xs.length xs rfl
      go_wp2_with fail
      refine (cut_any (E.out.get 0 _ _ rfl) (by rw [HZL.out]; omega)).mono ?_
      rw [HZ.out]
      rintro e w3 ⟨v3, rfl, hown3, hb3⟩
      have E := Lib.hid ((E.out.step hb3).add (SlR.of_own hown3))
      obtain ⟨a3, c3, rfl, hc31, hc32⟩ := own_slice hown3
      simp only [List.length_map] at hc31
      clear hown3 hb3
      go_wp2_with fail
      refine (cut_any (E.out.get 2 _ _ rfl) (by omega)).mono ?_
      rintro e w4 ⟨v4, rfl, hown4, hb4⟩
      have E := Lib.hid ((E.out.step hb4).add (SlR.of_own hown4))
      obtain ⟨a4, c4, rfl, hc41, hc42⟩ := own_slice hown4
      clear hown4 hb4
      have G1 := same_any (E.out.get 2 _ _ rfl) (E.out.get 3 _ _ rfl)
      have G2 := same_any (E.out.get 1 _ _ rfl) (E.out.get 3 _ _ rfl)
      have G3 := le_any (E.out.get 2 _ _ rfl) (E.out.get 1 _ _ rfl)
      have G4 := le_any (E.out.get 1 _ _ rfl) (E.out.get 2 _ _ rfl)
      rw [F1.out] at G1
      rw [F2.out] at G2
      rw [F3.out] at G3
      rw [F4.out] at G4
      obtain ⟨a5, c5, hv5, _, _, hx5⟩ := (E.out.get 1 _ _ rfl).intsAt
      simp only [List.length_map] at *
      generalize cutI xs = ys at *
      have G1 := Lib.hid G1
      have G2 := Lib.hid G2
      have G3 := Lib.hid G3
      have G4 := Lib.hid G4
      by_cases hy : ys.length = 0
      · have hlen0 : ((ys.length : Int) == 0) = true := by rw [beq_iff_eq]; omega
        clear hx5 hlast hy hv5
        go_wp2_with (first
          | (go_at_call 18; ((with_reducible refine G1.out.mono ?_); rintro e w' ⟨rfl, rfl⟩))
          | (go_at_call 18; ((with_reducible refine G2.out.mono ?_); rintro e w' ⟨rfl, rfl⟩))
          | (go_at_call 17; ((with_reducible refine G3.out.mono ?_); rintro e w' ⟨rfl, rfl⟩))
          | (go_at_call 17; ((with_reducible refine G4.out.mono ?_); rintro e w' ⟨rfl, rfl⟩)))
        go_ret
        exact ⟨rfl, E.out.below⟩
      · have hlen0 : ((ys.length : Int) == 0) = false := by rw [beq_eq_false_iff_ne]; omega
        obtain ⟨b5, hb5, hcell⟩ := hx5 (ys.length - 1) (by omega)
        cases hv5
        subst hb5
        have hl2 := hlast (by omega)
        have hne : (atI ys ((ys.length - 1 : Nat) : Int) != 0) = true := by simpa using hl2
        have hpos : 1 ≤ ys.length := by omega
        generalize atI ys ((ys.length - 1 : Nat) : Int) = y at *
        clear hx5 hlast hy hl2
        go_wp2_with (first
          | (go_at_call 18; ((with_reducible refine G1.out.mono ?_); rintro e w' ⟨rfl, rfl⟩))
          | (go_at_call 18; ((with_reducible refine G2.out.mono ?_); rintro e w' ⟨rfl, rfl⟩))
          | (go_at_call 17; ((with_reducible refine G3.out.mono ?_); rintro e w' ⟨rfl, rfl⟩))
          | (go_at_call 17; ((with_reducible refine G4.out.mono ?_); rintro e w' ⟨rfl, rfl⟩)))
        go_ret
        exact ⟨rfl, E.out.below⟩

theorem vecCuts_walk {v : Value} {xs : List Int} {x1 : Int} {W : World} (hv : SlR W v (u64s xs)) (_ : ∀ x ∈ xs, (Lit.int .u64 x).wf = true) (ht : (Lit.int .u8 x1).wf = true) :
    Calls Try.prog 8 #[v, .int .u8 x1] W fun e W' => e = .returned (.bool true) ∧ Below W.heap.size W W' := by
  have hb : 0 ≤ x1 ∧ x1 ≤ 255 := by
    simp [Lit.wf, IntKind.min, IntKind.max, IntKind.signed, IntKind.bits] at ht
    omega
  obtain ⟨t, rfl⟩ := Int.eq_ofNat_of_zero_le hb.1
  by_cases lx : xs.length ≤ 40
  · exact vecCuts_in t hv lx (by omega)
  · obtain ⟨ao, ca, rfl, hca, hma, _⟩ := hv.ints
    go_enter Try.func8, Try.ntmps8
    go_wp2_with (go_at_call 10; refine (awake_any W).mono ?_; rintro e w1 ⟨rfl, hb1⟩; have HB1 := Lib.hid hb1)
    go_ret
    exact ⟨rfl, HB1.out⟩

theorem vecCuts_holds : Rows.VecCutsSaid :=
  OpenClaim.holds_of_wide 8 Try.f8 rfl rfl rfl rfl rfl rfl rfl ⟨rfl, rfl, rfl, rfl, rfl⟩ rfl rfl rfl rfl rfl (by kernel_rfl) Try.func8 (by kernel_rfl)
    (of_decide_eq_true (by kernel_rfl)) (by unfold Func.isWrapper; rw [if_neg (by decide +kernel)]; exact ⟨rfl, rfl⟩)
    (fun os started H enc _ => law_frame (C := Try.checked) (fn := Try.f8) (s := Rows.vecCutsSpec) (tb := 4) Try.own started (by kernel_rfl) Try.func8 Try.laidOut rfl (by kernel_rfl) Try.underlying4 (by kernel_rfl)
      (fun ds hd => by match ds, hd with | [_, _], _ => exact ⟨rfl, rfl, rfl⟩)
      (ChangeSpec.witness6 (enc := enc) (C := Try.checked) false ⟨#[], #[.slice none 0 0, .int .u8 0], []⟩ 8 (by kernel_rfl) (by kernel_rfl) (by kernel_rfl) (by kernel_rfl))
      (fun W base args ds p hval0 hA0 _ => by
        have hval : ∀ (j : Nat) t v, Try.f8.params[j]? = some t → args[j]? = some v → Value.okWide Try.prog W .any base t v := hval0
        have hA : DataW.TrodAll enc Try.prog W 0 (fun _ => true) true Try.f8.params.toList args.toList ds p := hA0
        rw [Try.params8] at hA hval
        obtain ⟨v0, v1, d0, d1, p0, p1, rfl, rfl, rfl, h0, h1⟩ := trodAll_two hA
        obtain ⟨x0, hx0, wx0⟩ := arg_ints Try.underlying22 Try.underlying24 (by kernel_rfl) (hval 0 22 v0 rfl rfl) h0
        obtain ⟨x1, rfl, rfl, rfl, wx1⟩ := open_int Try.underlying5 (hval 1 5 v1 rfl rfl) h1
        exact vecCuts_walk hx0 wx0 wx1))

end Go.Proofs.Ytbdcbdngamglaaa
