/-
  VecLess: of any two rows of 32-bit numbers: what is less and what was taken away are what was there, number by number, and together. No condition: every input.
-/
import Derived.Test.YtbdcbdngamglaaaPlain2
import Derived.Test.YtbdcbdngamglaaaFrame
namespace Go.Proofs.Ytbdcbdngamglaaa
open Go.ChangeShapes Go.WideShapes Go.ChangeAt Go.RowKit

def U32 (xs : List Int) : Prop := ∀ x ∈ xs, 0 ≤ x ∧ x ≤ 4294967295
theorem u32_of_wf {xs : List Int} (h : ∀ x ∈ xs, (Lit.int .u32 x).wf = true) : U32 xs := fun x hx => by
  have := h x hx
  simp [Lit.wf, IntKind.min, IntKind.max, IntKind.signed, IntKind.bits] at this
  omega
theorem U32.at {xs : List Int} (h : U32 xs) (i : Int) : 0 ≤ atI xs i ∧ atI xs i ≤ 4294967295 := by
  unfold atI
  split
  · rw [List.getD]
    cases hi : xs[i.toNat]? with
    | none => simp
    | some x => exact h x (List.mem_of_getElem? hi)
  · omega
theorem U32.u64 {xs : List Int} (h : U32 xs) : U64 xs := fun x hx => by have := h x hx; omega
theorem U32.max2 {a b : List Int} (ha : U32 a) (hb : U32 b) (i : Nat) : 0 ≤ atI (maxI [a, b]) i ∧ atI (maxI [a, b]) i ≤ 4294967295 := by
  rw [atI_max2]; have := ha.at i; have := hb.at i; omega
theorem mem_at {xs : List Int} {x : Int} (h : x ∈ xs) : ∃ i : Nat, i < xs.length ∧ atI xs i = x := by
  obtain ⟨i, hi, rfl⟩ := List.getElem_of_mem h
  exact ⟨i, hi, atI_of_lt xs i hi⟩
theorem at_less {z a : List Int} (hle : ∀ i : Nat, 0 ≤ atI a i ∧ atI a i ≤ atI z i ∧ atI z i ≤ 18446744073709551615) (i : Nat) : atI (lessI z a) i = atI z i - atI a i := by
  have h : leB a z = true := le_iff.2 fun i => (hle i).2.1
  unfold lessI
  rw [if_pos h, atI_cut, atI_comb subU (by rfl), subU_of _ _ (hle i).1 (hle i).2.1 (hle i).2.2]

/-- All that the law asks, of plain rows. -/
theorem less_facts {a b : List Int} (ua : U32 a) (ub : U32 b) (la : a.length ≤ 30) (lb : b.length ≤ 30) :
    lessE (maxI [a, b]) a = 0 ∧ (∀ i : Nat, 0 ≤ atI (lessI (maxI [a, b]) a) i ∧ atI (lessI (maxI [a, b]) a) i + atI a i = atI (maxI [a, b]) i ∧ atI (maxI [a, b]) i ≤ 4294967295) ∧
      sumE a = 0 ∧ sumE (lessI (maxI [a, b]) a) = 0 ∧ sumE (maxI [a, b]) = 0 ∧ 0 ≤ sumV a ∧ 0 ≤ sumV (lessI (maxI [a, b]) a) ∧ sumV a + sumV (lessI (maxI [a, b]) a) = sumV (maxI [a, b]) ∧ sumV (maxI [a, b]) ≤ 200000000000 ∧
      U64 a ∧ U64 (lessI (maxI [a, b]) a) ∧ U64 (maxI [a, b]) := by
  have hz := ua.max2 ub
  have hle : ∀ i : Nat, 0 ≤ atI a i ∧ atI a i ≤ atI (maxI [a, b]) i ∧ atI (maxI [a, b]) i ≤ 18446744073709551615 := fun i => by
    have h1 := ua.at i; have h2 := hz i; rw [atI_max2] at *; omega
  have hl := at_less hle
  have hlz : (maxI [a, b]).length ≤ 30 := maxI_len _ _ (by simp; omega)
  have hll : (lessI (maxI [a, b]) a).length ≤ 30 := by
    unfold lessI
    split
    · refine Nat.le_trans (cutI_len _) ?_; rw [combI_length]; omega
    · simp
  have s1 := sum_at a 30 la
  have s2 := sum_at _ 30 hll
  have s3 := sum_at _ 30 hlz
  have sadd : sumI a + sumI (lessI (maxI [a, b]) a) = sumI (maxI [a, b]) := by
    rw [s1, s2, s3, ← sum_add]
    congr 1
    refine List.map_congr_left fun i _ => ?_
    rw [hl i]; omega
  have bz : sumI (maxI [a, b]) ≤ 200000000000 := by
    rw [s3]
    have := sum_le (fun i : Nat => atI (maxI [a, b]) i) 4294967295 (List.range 30) (fun i _ => (hz i).2)
    simp only [List.length_range] at this
    omega
  have uz : U64 (maxI [a, b]) := fun x hx => by obtain ⟨i, _, rfl⟩ := mem_at hx; have := hz i; omega
  have ul : U64 (lessI (maxI [a, b]) a) := fun x hx => by obtain ⟨i, _, rfl⟩ := mem_at hx; rw [hl i]; have := hle i; omega
  have na := sumI_nonneg a ua.u64
  have nl := sumI_nonneg _ ul
  refine ⟨?_, fun i => ⟨?_, ?_, (hz i).2⟩, ?_, ?_, ?_, ?_, ?_, ?_, ?_, ua.u64, ul, uz⟩
  · unfold lessE; rw [if_pos (le_iff.2 fun i => (hle i).2.1)]
  · rw [hl i]; have := hle i; omega
  · rw [hl i]; omega
  · unfold sumE; rw [if_pos (by omega)]
  · unfold sumE; rw [if_pos (by omega)]
  · unfold sumE; rw [if_pos (by omega)]
  · unfold sumV; rw [if_pos (by omega)]; exact na
  · unfold sumV; rw [if_pos (by omega)]; exact nl
  · unfold sumV; rw [if_pos (by omega), if_pos (by omega), if_pos (by omega)]; exact sadd
  · unfold sumV; rw [if_pos (by omega)]; exact bz

set_option maxHeartbeats 2000000 in
theorem vecLess_in {va vb : Value} {a b : List Int} {W : World} (ha : SlR W va (a.map (Value.int .u32))) (hb : SlR W vb (b.map (Value.int .u32))) (ua : U32 a) (ub : U32 b) (la : a.length ≤ 30) (lb : b.length ≤ 30) :
    Calls Try.prog 6 #[va, vb] W fun e W' => e = .returned (.bool true) ∧ Below W.heap.size W W' := by
  have Ha := Lib.hid ha
  have Hb := Lib.hid hb
  have Hua := Lib.hid ua
  have Hub := Lib.hid ub
  have HF := Lib.hid (less_facts ua ub la lb)
  obtain ⟨ao, ca, rfl, hca, hma, _⟩ := ha.intsAt
  obtain ⟨bo, cb, rfl, hcb, hmb, _⟩ := hb.intsAt
  clear ua ub ha hb
  go_enter Try.func6, Try.ntmps6
  go_wp2_with (go_at_call 10; refine (awake_any W).mono ?_; rintro e w1 ⟨rfl, hb1⟩; have E := Lib.hid (((Env.nil hb1).add (Hb.out.below hb1 (Nat.le_refl _))).add (Ha.out.below hb1 (Nat.le_refl _))))
  go_loopw [8, 6] (fun i o wr => ∃ k : Nat, k ≤ a.length ∧ i = .int .i64 k ∧ wr.ownsRow w1.heap.size 24 1 o k (u64s (a.take k)) ∧ Below w1.heap.size w1 wr) (fun i _ _ => a.length - (intOf i).toNat)
  case atStart => exact ⟨0, by omega, rfl, by simpa using World.ownsRow_nil _ _ _ _, Below.refl _ _⟩
  case round =>
    obtain ⟨k, hk, rfl, hown, hbl⟩ := hrel
    by_cases hlt : k < a.length
    · obtain ⟨ao', c', hv, _, _, hx⟩ := ((E.out.get 0 _ _ rfl).below hbl (Nat.le_refl _)).intsAt
      cases hv
      obtain ⟨p, rfl, hcell⟩ := hx k hlt
      obtain ⟨hx0, hx1⟩ := Hua.out.at k
      have hts := Lib.hid (List.take_succ_eq_append_getElem hlt)
      rw [← atI_of_lt a k hlt] at hts
      obtain ⟨cs, hcs⟩ : ∃ cs, cs = u64s (a.take k) := ⟨_, rfl⟩
      rw [← hcs] at hown
      have HCs := Lib.hid hcs
      have HO := Lib.hid hown
      have HB := Lib.hid hbl
      have hbs := hbl.size
      generalize atI a k = x at *
      clear hown hbl hx hcs
      go_wp2_with (at_builtin; refine app_u64 rfl (.tmp 37) (.tmp 43) rfl rfl rfl HO.out (by omega) hbs ?_; intro g cap w' hown hb' _ _; have hown := Lib.hid hown)
      go_roundw
      case rel => exact ⟨k + 1, by omega, by go_num, by have := hown.out; rw [HCs.out] at this; rw [hts.out]; simpa using this, HB.out.trans hb'⟩
      case measure => simp [intOf]; omega
    · have hkl : k = a.length := by omega
      subst hkl
      rw [List.take_length] at hown
      have E := Lib.hid ((E.out.step hbl).add (SlR.of_own hown))
      obtain ⟨ax, cx, rfl, hcx1, hcx2⟩ := own_slice hown
      obtain ⟨w2, rfl⟩ : ∃ w2 : World, w2 = wr := ⟨_, rfl⟩
      clear hown hbl
      go_wp2_with fail
      go_loopw [9, 7] (fun i o wr => ∃ k : Nat, k ≤ b.length ∧ i = .int .i64 k ∧ wr.ownsRow w2.heap.size 24 1 o k (u64s (b.take k)) ∧ Below w2.heap.size w2 wr) (fun i _ _ => b.length - (intOf i).toNat)
      case atStart => exact ⟨0, by omega, rfl, by simpa using World.ownsRow_nil _ _ _ _, Below.refl _ _⟩
      case round =>
        obtain ⟨k, hk, rfl, hown, hbl⟩ := hrel
        by_cases hlt : k < b.length
        · obtain ⟨bo', c', hv, _, _, hx⟩ := ((E.out.get 2 _ _ rfl).below hbl (Nat.le_refl _)).intsAt
          cases hv
          obtain ⟨p, rfl, hcell⟩ := hx k hlt
          obtain ⟨hx0, hx1⟩ := Hub.out.at k
          have hts := Lib.hid (List.take_succ_eq_append_getElem hlt)
          rw [← atI_of_lt b k hlt] at hts
          obtain ⟨cs, hcs⟩ : ∃ cs, cs = u64s (b.take k) := ⟨_, rfl⟩
          rw [← hcs] at hown
          have HCs := Lib.hid hcs
          have HO := Lib.hid hown
          have HB := Lib.hid hbl
          have hbs := hbl.size
          generalize atI b k = x at *
          clear hown hbl hx hcs
          go_wp2_with (at_builtin; refine app_u64 rfl (.tmp 51) (.tmp 57) rfl rfl rfl HO.out (by omega) hbs ?_; intro g cap w' hown hb' _ _; have hown := Lib.hid hown)
          go_roundw
          case rel => exact ⟨k + 1, by omega, by go_num, by have := hown.out; rw [HCs.out] at this; rw [hts.out]; simpa using this, HB.out.trans hb'⟩
          case measure => simp [intOf]; omega
        · have hkl : k = b.length := by omega
          subst hkl
          rw [List.take_length] at hown
          have E := Lib.hid ((E.out.step hbl).add (SlR.of_own hown))
          obtain ⟨ay, cy, rfl, hcy1, hcy2⟩ := own_slice hown
          obtain ⟨w3, rfl⟩ : ∃ w3 : World, w3 = wr := ⟨_, rfl⟩
          clear hown hbl
          go_wp2_with fail
          refine (max_any (rowsR_pair (E.out.get 1 _ _ rfl) (E.out.get 0 _ _ rfl)) (by simp; omega)).mono ?_
          rintro e w4 ⟨v4, rfl, hown4, hb4⟩
          have hb4' : Below w3.heap.size w3 w4 := ((Below.refl _ _).alloc (Nat.le_refl _) _).trans (hb4.mono (by simp))
          have E := Lib.hid ((E.out.step hb4').add (SlR.of_own hown4))
          clear hown4 hb4 hb4'
          obtain ⟨f1, f2, f3, f4, f5, f6, f7, f8, f9, f10, f11, f12⟩ := HF.out
          have hzl : (maxI [a, b]).length ≤ 1048576 := maxI_len _ _ (by simp; omega)
          generalize maxI [a, b] = z at *
          go_wp2_with fail
          refine (less_any (E.out.get 0 _ _ rfl) (E.out.get 2 _ _ rfl) hzl (by omega)).mono ?_
          rintro e w5 ⟨v5, rfl, hown5, hb5⟩
          have E := Lib.hid ((E.out.step hb5).add (SlR.of_own hown5))
          rw [f1]
          clear hown5 hb5 f1 HF hzl
          generalize lessI z a = l at *
          have F2 := Lib.hid f2
          have F10 := Lib.hid f10
          have F11 := Lib.hid f11
          have F12 := Lib.hid f12
          have S1 := Lib.hid (sum_any (E.out.get 3 _ _ rfl) f10)
          have S2 := Lib.hid (sum_any (E.out.get 0 _ _ rfl) f11)
          have S3 := Lib.hid (sum_any (E.out.get 1 _ _ rfl) f12)
          rw [f3] at S1
          rw [f4] at S2
          rw [f5] at S3
          clear f2 f10 f11 f12 f3 f4 f5
          generalize sumV a = sa at *
          generalize sumV l = sl at *
          generalize sumV z = sz at *
          go_wp2_with fail
          go_loop [13] (fun i => ∃ k : Nat, k ≤ 30 ∧ i = .int .i64 k) (fun i => 30 - (intOf i).toNat)
          case atStart => exact ⟨0, by omega, rfl⟩
          case round =>
            obtain ⟨k, hk, rfl⟩ := hrel
            by_cases hlt : k < 30
            · obtain ⟨g1, g2, g3⟩ := F2.out k
              have g0 := (F10.out.at k).1
              have A1 := Lib.hid (at_any (k : Int) (E.out.get 0 _ _ rfl))
              have A2 := Lib.hid (at_any (k : Int) (E.out.get 3 _ _ rfl))
              have A3 := Lib.hid (at_any (k : Int) (E.out.get 1 _ _ rfl))
              generalize atI l k = p at *
              generalize atI a k = q at *
              generalize atI z k = r at *
              have ht : (p + q != r) = false := by simp [g2]
              have hpq : p + q ≤ 18446744073709551615 := by omega
              clear g2
              go_wp2_with (go_at_call 19; first
                | ((with_reducible refine A1.out.mono ?_); rintro e w' ⟨rfl, rfl⟩)
                | ((with_reducible refine A2.out.mono ?_); rintro e w' ⟨rfl, rfl⟩)
                | ((with_reducible refine A3.out.mono ?_); rintro e w' ⟨rfl, rfl⟩))
              go_round
              case rel => exact ⟨k + 1, by omega, by go_num⟩
              case measure => simp [intOf]; omega
            · have hk3 : (30 : Int) ≤ (k : Int) := by omega
              have ht : (sa + sl == sz) = true := by simp [f8]
              have hsl : sa + sl ≤ 18446744073709551615 := by omega
              clear f8
              go_wp2_with (go_at_call 11; first
                | ((with_reducible refine S1.out.mono ?_); rintro e w' ⟨rfl, rfl⟩)
                | ((with_reducible refine S2.out.mono ?_); rintro e w' ⟨rfl, rfl⟩)
                | ((with_reducible refine S3.out.mono ?_); rintro e w' ⟨rfl, rfl⟩))
              go_ret
              exact ⟨rfl, E.out.below⟩

theorem vecLess_walk {va vb : Value} {a b : List Int} {W : World} (ha : SlR W va (a.map (Value.int .u32))) (ua : ∀ x ∈ a, (Lit.int .u32 x).wf = true) (hb : SlR W vb (b.map (Value.int .u32))) (ub : ∀ x ∈ b, (Lit.int .u32 x).wf = true) :
    Calls Try.prog 6 #[va, vb] W fun e W' => e = .returned (.bool true) ∧ Below W.heap.size W W' := by
  by_cases la : a.length ≤ 30
  · by_cases lb : b.length ≤ 30
    · exact vecLess_in ha hb (u32_of_wf ua) (u32_of_wf ub) la lb
    · obtain ⟨ao, ca, rfl, hca, hma, _⟩ := ha.ints
      obtain ⟨bo, cb, rfl, hcb, hmb, _⟩ := hb.ints
      go_enter Try.func6, Try.ntmps6
      go_wp2_with (go_at_call 10; refine (awake_any W).mono ?_; rintro e w1 ⟨rfl, hb1⟩; have HB1 := Lib.hid hb1)
      go_ret
      exact ⟨rfl, HB1.out⟩
  · obtain ⟨ao, ca, rfl, hca, hma, _⟩ := ha.ints
    go_enter Try.func6, Try.ntmps6
    go_wp2_with (go_at_call 10; refine (awake_any W).mono ?_; rintro e w1 ⟨rfl, hb1⟩; have HB1 := Lib.hid hb1)
    go_ret
    exact ⟨rfl, HB1.out⟩

theorem vecLess_holds : Rows.VecLessSaid :=
  OpenClaim.holds_of_wide 6 Try.f6 rfl rfl rfl rfl rfl rfl rfl ⟨rfl, rfl, rfl, rfl, rfl⟩ rfl rfl rfl rfl rfl (by kernel_rfl) Try.func6 (by kernel_rfl)
    (of_decide_eq_true (by kernel_rfl)) (by unfold Func.isWrapper; rw [if_neg (by decide +kernel)]; exact ⟨rfl, rfl⟩)
    (fun os started H enc _ => law_frame (C := Try.checked) (fn := Try.f6) (s := Rows.vecLessSpec) (tb := 4) Try.own started (by kernel_rfl) Try.func6 Try.laidOut rfl (by kernel_rfl) Try.underlying4 (by kernel_rfl)
      (fun ds hd => by match ds, hd with | [_, _], _ => exact ⟨rfl, rfl, rfl⟩)
      (ChangeSpec.witness6 (enc := enc) (C := Try.checked) false ⟨#[], #[.slice none 0 0, .slice none 0 0], []⟩ 8 (by kernel_rfl) (by kernel_rfl) (by kernel_rfl) (by kernel_rfl))
      (fun W base args ds p hval0 hA0 _ => by
        have hval : ∀ (j : Nat) t v, Try.f6.params[j]? = some t → args[j]? = some v → Value.okWide Try.prog W .any base t v := hval0
        have hA : DataW.TrodAll enc Try.prog W 0 (fun _ => true) true Try.f6.params.toList args.toList ds p := hA0
        rw [Try.params6] at hA hval
        obtain ⟨v0, v1, d0, d1, p0, p1, rfl, rfl, rfl, h0, h1⟩ := trodAll_two hA
        obtain ⟨x0, hx0, wx0⟩ := arg_ints Try.underlying39 Try.underlying40 (by kernel_rfl) (hval 0 39 v0 rfl rfl) h0
        obtain ⟨x1, hx1, wx1⟩ := arg_ints Try.underlying39 Try.underlying40 (by kernel_rfl) (hval 1 39 v1 rfl rfl) h1
        exact vecLess_walk hx0 wx0 hx1 wx1))

end Go.Proofs.Ytbdcbdngamglaaa
