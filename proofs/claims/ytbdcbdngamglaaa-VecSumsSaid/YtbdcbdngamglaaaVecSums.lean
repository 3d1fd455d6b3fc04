/-
  VecSums: of any row of 32-bit numbers: a sum is the same in whatever order, and with noughts between; one that does not fit is told so. No condition: every input.
-/
import Derived.Test.YtbdcbdngamglaaaPlain2
import Derived.Test.YtbdcbdngamglaaaLib2
import Derived.Test.YtbdcbdngamglaaaFrame
namespace Go.Proofs.Ytbdcbdngamglaaa
open Go.ChangeShapes Go.WideShapes Go.ChangeAt Go.RowKit

def U32 (xs : List Int) : Prop := ∀ x ∈ xs, 0 ≤ x ∧ x ≤ 4294967295
theorem u32_of_wf {xs : List Int} (h : ∀ x ∈ xs, (Lit.int .u32 x).wf = true) : U32 xs := fun x hx => by
  have := h x hx
  simp [Lit.wf, IntKind.min, IntKind.max, IntKind.signed, IntKind.bits] at this
  omega
theorem U32.at {xs : List Int} (h : U32 xs) (i : Int) : 0 ≤ atI xs i ∧ atI xs i ≤ 4294967295 := by
  unfold atI
  split
  · rw [List.getD]
    cases hi : xs[i.toNat]? with
    | none => simp
    | some x => exact h x (List.mem_of_getElem? hi)
  · omega
theorem U32.u64 {xs : List Int} (h : U32 xs) : U64 xs := fun x hx => by have := h x hx; omega
/-- The rows that the law makes: a nought, and a number from elsewhere. -/
def turnI (xs : List Int) (t k : Nat) : List Int := (List.range k).flatMap fun i => [0, atI xs (((i + t) % xs.length : Nat))]
theorem turnI_succ (xs : List Int) (t k : Nat) : turnI xs t (k + 1) = turnI xs t k ++ [0, atI xs (((k + t) % xs.length : Nat))] := by
  simp [turnI, List.range_succ]
theorem turnI_len (xs : List Int) (t k : Nat) : (turnI xs t k).length = 2 * k := by
  induction k with
  | zero => rfl
  | succ k ih => rw [turnI_succ, List.length_append, ih]; simp; omega
theorem turnI_sum (xs : List Int) (t : Nat) : sumI (turnI xs t xs.length) = sumI xs := by
  have e1 : ∀ k, sumI (turnI xs t k) = ((List.range k).map fun i : Nat => atI xs (((i + t) % xs.length : Nat))).sum := by
    intro k
    induction k with
    | zero => rfl
    | succ k ih =>
      rw [turnI_succ, List.range_succ, List.map_append, List.sum_append]
      unfold sumI at *
      rw [List.sum_append, ih]; simp
  rw [e1]
  rcases Nat.eq_zero_or_pos xs.length with h0 | hp
  · rw [h0]; have : xs = [] := List.eq_nil_of_length_eq_zero h0; subst this; rfl
  have hr := Nat.mod_lt t hp
  have e2 : (List.range xs.length).map (fun i : Nat => atI xs (((i + t) % xs.length : Nat))) = xs.drop (t % xs.length) ++ xs.take (t % xs.length) := by
    apply List.ext_getElem
    · simp; omega
    · intro i h1 h2
      simp only [List.length_map, List.length_range] at h1
      simp only [List.getElem_map, List.getElem_range]
      rw [List.getElem_append, atI_of_lt _ _ (Nat.mod_lt _ hp)]
      have em : (i + t) % xs.length = (i + t % xs.length) % xs.length := by simp
      split
      · rename_i h3
        rw [List.length_drop] at h3
        rw [List.getElem_drop]
        congr 1
        rw [em, Nat.mod_eq_of_lt (by omega)]; omega
      · rename_i h3
        rw [List.length_drop] at h3
        rw [List.getElem_take]
        congr 1
        rw [em, Nat.mod_eq_sub_mod (by omega), Nat.mod_eq_of_lt (by omega)]
        rw [List.length_drop]; omega
  rw [e2, List.sum_append]
  have e3 := congrArg List.sum (List.take_append_drop (t % xs.length) xs)
  rw [List.sum_append] at e3
  unfold sumI
  omega
theorem turnI_u64 {xs : List Int} (h : U32 xs) (t k : Nat) : U64 (turnI xs t k) := by
  intro x hx
  simp only [turnI, List.mem_flatMap] at hx
  obtain ⟨i, _, hi⟩ := hx
  have := h.at (((i + t) % xs.length : Nat))
  simp only [List.mem_cons, List.not_mem_nil, or_false] at hi
  rcases hi with rfl | rfl <;> omega
theorem sum_bound {xs : List Int} (h : U32 xs) (hl : xs.length ≤ 40) : sumI xs ≤ 200000000000 := by
  have h1 := sum_at xs 40 hl
  have := sum_le (fun i : Nat => atI xs i) 4294967295 (List.range 40) (fun i _ => (h.at i).2)
  simp only [List.length_range] at this
  omega

set_option maxHeartbeats 2000000 in
theorem vecSums_in {v : Value} {xs : List Int} (t : Nat) {W : World} (hv : SlR W v (xs.map (Value.int .u32))) (ux : U32 xs) (lx : xs.length ≤ 40) (ht : t ≤ 255) :
    Calls Try.prog 7 #[v, .int .u8 t] W fun e W' => e = .returned (.bool true) ∧ Below W.heap.size W W' := by
  have H := Lib.hid hv
  have HU := Lib.hid ux
  obtain ⟨ao, c, rfl, hc, hm, _⟩ := hv.ints
  clear hv ux
  go_enter Try.func7, Try.ntmps7
  go_wp2_with (go_at_call 10; refine (awake_any W).mono ?_; rintro e w1 ⟨rfl, hb1⟩; have E := Lib.hid ((Env.nil hb1).add (H.out.below hb1 (Nat.le_refl _))))
  go_loopw [9, 6, 7, 8] (fun i o p s wr => ∃ (k : Nat) (z : Int), k ≤ xs.length ∧ i = .int .i64 k ∧ s = .int .u64 z ∧ z = sumI (xs.take k) ∧ wr.ownsRow w1.heap.size 24 1 o k (u64s (xs.take k)) ∧ wr.ownsRow w1.heap.size 24 1 p (2 * k) (u64s (turnI xs t k)) ∧ ApartV o p ∧ Below w1.heap.size w1 wr) (fun i _ _ _ _ => xs.length - (intOf i).toNat)
  case atStart => exact ⟨0, 0, by omega, rfl, rfl, by simp [sumI], by simpa using World.ownsRow_nil _ _ _ _, by simpa [turnI] using World.ownsRow_nil _ _ _ _, by intro k hk; simp [Value.ownBlock] at hk, Below.refl _ _⟩
  case round =>
    obtain ⟨k, z, hk, rfl, rfl, hz, hown, hown2, hap, hbl⟩ := hrel
    by_cases hlt : k < xs.length
    · obtain ⟨ao', c', hv, _, _, hx⟩ := ((E.out.get 0 _ _ rfl).below hbl (Nat.le_refl _)).intsAt
      cases hv
      obtain ⟨p, rfl, hcell⟩ := hx k hlt
      have hmod := Nat.mod_lt (k + t) (show 0 < xs.length by omega)
      obtain ⟨p', hp', hcell2⟩ := hx ((k + t) % xs.length) hmod
      cases hp'
      obtain ⟨hx0, hx1⟩ := HU.out.at k
      obtain ⟨hy0, hy1⟩ := HU.out.at ((k + t) % xs.length : Nat)
      have hts := Lib.hid (List.take_succ_eq_append_getElem hlt)
      rw [← atI_of_lt xs k hlt] at hts
      have hTs := Lib.hid (turnI_succ xs t k)
      have hSs := Lib.hid (sumI_take_succ xs k hlt)
      rw [← atI_of_lt xs k hlt] at hSs
      have hz1 : z ≤ 200000000000 := by rw [hz]; exact Int.le_trans (sumI_take_le xs HU.out.u64 k) (sum_bound HU.out lx)
      have hz0 : 0 ≤ z := by rw [hz]; exact sumI_nonneg _ (fun y hy => HU.out.u64 y (List.mem_of_mem_take hy))
      have HZ := Lib.hid hz
      obtain ⟨cs, hcs⟩ : ∃ cs, cs = u64s (xs.take k) := ⟨_, rfl⟩
      obtain ⟨ds, hds⟩ : ∃ ds, ds = u64s (turnI xs t k) := ⟨_, rfl⟩
      rw [← hcs] at hown
      rw [← hds] at hown2
      have HCs := Lib.hid hcs
      have HDs := Lib.hid hds
      have HO := Lib.hid hown
      have HO2 := Lib.hid hown2
      have HB := Lib.hid hbl
      have HAp := Lib.hid hap
      have hbs := hbl.size
      have hpb := World.block_lt_of_cell? wr _ hcell2
      have hpb1 : (p.add ((k + t) % xs.length)).block < w1.heap.size := by
        obtain ⟨ao2, c2, hv2, _, _, hx2⟩ := (E.out.get 0 _ _ rfl).intsAt
        cases hv2
        obtain ⟨p2, hp2, hc2⟩ := hx2 _ hmod
        cases hp2
        exact World.block_lt_of_cell? w1 _ hc2
      have hpb2 : (p.add k).block < w1.heap.size := by
        obtain ⟨ao2, c2, hv2, _, _, hx2⟩ := (E.out.get 0 _ _ rfl).intsAt
        cases hv2
        obtain ⟨p2, hp2, hc2⟩ := hx2 _ hlt
        cases hp2
        exact World.block_lt_of_cell? w1 _ hc2
      generalize atI xs k = x at *
      generalize atI xs ((k + t) % xs.length : Nat) = y at *
      have hn1 : 1 ≤ xs.length := by omega
      have hmi0 : (0 : Int) ≤ ((k : Int) + (t : Int)) % (xs.length : Int) := Int.emod_nonneg _ (by omega)
      have hmi1 : ((k : Int) + (t : Int)) % (xs.length : Int) < (xs.length : Int) := Int.emod_lt_of_pos _ (by omega)
      clear hown hown2 hbl hx hcs hds hz hap
      go_wp2_with (first
        | (at_builtin; refine app_u64 rfl (.tmp 28) (.tmp 34) rfl rfl rfl HO.out (by omega) hbs ?_; intro g cap w' hown hb' hg hk'; have hown := Lib.hid hown; have hO2' := Lib.hid (own_keep HO2.out (fun b hb => hk' b (HO2.out.lt b hb).2 (fun e => HAp.out b e.symm hb))); have hg := Lib.hid hg; have hb' := Lib.hid hb'; have hcell2' : w'.cell? (p.add ((k + t) % xs.length)) = some (.int .u32 y) := (hb'.out.cell hpb1).trans hcell2; have hcell' : w'.cell? (p.add k) = some (.int .u32 x) := (hb'.out.cell hpb2).trans hcell; have hbs' := Lib.hid hb'.out.size)
        | (at_builtin; refine app_u64N rfl (.tmp 36) (.tmp 48) rfl rfl rfl rfl (by decide) hO2'.out (by intro u hu; simp at hu; rcases hu with rfl | rfl <;> rfl) (by omega) (by have := hbs'.out; omega) ?_; intro g2 cap2 w2 hown2 hb2 hg2 hk2; have hown2 := Lib.hid hown2; have hcell2 : w2.cell? (p.add k) = some (.int .u32 x) := (hb2.cell hpb2).trans hcell'))
      go_roundw
      case rel =>
        refine ⟨k + 1, z + x, by omega, by go_num, rfl, ?_, ?_, ?_, ?_, HB.out.trans (hb'.out.trans hb2)⟩
        · rw [hSs.out, ← HZ.out]
        · have h := hown.out
          rw [HCs.out] at h
          rw [hts.out]
          have h2 : w'.ownsRow w1.heap.size 24 1 (.slice (some ⟨g, 0, none⟩) (k + 1) cap) (k + 1) (u64s (xs.take k ++ [x])) := by simpa using h
          exact own_keep h2 (fun b hb => hk2 b (h2.lt b hb).2 (fun e => by
            have hgb : g = b := by simpa [Value.ownBlock] using hb
            rw [← hgb] at e
            have h3 := (HO2.out.lt _ e.symm).2
            rcases hg.out with hg | hg
            · exact HAp.out _ hg e.symm
            · omega))
        · have h := hown2.out
          rw [HDs.out] at h
          rw [hTs.out, show 2 * (k + 1) = 2 * k + 2 by omega]
          simpa using h
        · intro b hb hb2'
          have e1 : g = b := by simpa [Value.ownBlock] using hb
          have e2 : g2 = b := by simpa [Value.ownBlock] using hb2'
          rcases hg2 with hg2 | hg2
          · have h3 := (HO2.out.lt _ hg2).2
            rcases hg.out with hg | hg
            · exact HAp.out _ hg (by rw [e1, ← e2]; exact hg2)
            · omega
          · have h3 := (hown.out.lt g (by simp [Value.ownBlock])).2
            omega
      case measure => simp [intOf]; omega
    · have hkl : k = xs.length := by omega
      subst hkl
      rw [List.take_length] at hown hz
      have hsb := sum_bound HU.out lx
      have hs0 := sumI_nonneg xs HU.out.u64
      have hts := turnI_sum xs t
      have uT := Lib.hid (turnI_u64 HU.out t xs.length)
      have hTl := turnI_len xs t xs.length
      have E := Lib.hid (((E.out.step hbl).add (SlR.of_own hown2)).add (SlR.of_own hown))
      have V1 : sumV xs = z := by unfold sumV; rw [if_pos (by omega)]; exact hz.symm
      have E1 : sumE xs = 0 := by unfold sumE; rw [if_pos (by omega)]
      have V2 : sumV (turnI xs t xs.length) = z := by unfold sumV; rw [hts, if_pos (by omega)]; exact hz.symm
      have E2 : sumE (turnI xs t xs.length) = 0 := by unfold sumE; rw [hts, if_pos (by omega)]
      have E3 : sumE (xs ++ [18446744073709551615, 1]) = 37 := by
        unfold sumE sumI at *
        rw [List.sum_append, if_neg]
        simp only [List.sum_cons, List.sum_nil]
        omega
      have U3 : U64 (xs ++ [18446744073709551615, 1]) := by
        intro y hy
        simp only [List.mem_append, List.mem_cons, List.not_mem_nil, or_false] at hy
        rcases hy with hy | rfl | rfl
        · exact HU.out.u64 y hy
        · omega
        · omega
      have C1 := sum_any (E.out.get 0 _ _ rfl) HU.out.u64
      rw [V1, E1] at C1
      have C2 := sum_any (E.out.get 1 _ _ rfl) uT.out
      rw [V2, E2] at C2
      have C1 := Lib.hid C1
      have C2 := Lib.hid C2
      have E3 := Lib.hid E3
      have U3 := Lib.hid U3
      obtain ⟨cs, hcs⟩ : ∃ cs, cs = u64s xs := ⟨_, rfl⟩
      rw [← hcs] at hown
      have HCs := Lib.hid hcs
      have HO := Lib.hid hown
      have HB := Lib.hid hbl
      have hbs := hbl.size
      clear hown hown2 hbl V1 E1 V2 E2 hts hcs hz hsb hs0 hap
      go_wp2_with (first
        | (go_at_call 11; ((with_reducible refine C1.out.mono ?_); rintro e w' ⟨rfl, rfl⟩))
        | (go_at_call 11; ((with_reducible refine C2.out.mono ?_); rintro e w' ⟨rfl, rfl⟩))
        | (at_builtin; refine app_u64N rfl (.tmp 68) (.tmp 69) rfl rfl rfl rfl (by decide) HO.out (by intro u hu; simp at hu; rcases hu with rfl | rfl <;> rfl) (by omega) hbs ?_; intro g2 cap2 w2 hown2 hb2 hg2 hk2; have hown2 := Lib.hid hown2; have HB2 := Lib.hid hb2))
      have h3 : SlR w2 (.slice (some ⟨g2, 0, none⟩) (xs.length + 2) cap2) (u64s (xs ++ [18446744073709551615, 1])) := by
        have h := hown2.out
        rw [HCs.out] at h
        have h4 := SlR.of_own h
        simpa using h4
      have H3 := Lib.hid (sum_any h3 U3.out)
      rw [E3.out] at H3
      refine H3.out.mono ?_
      rintro e w' ⟨rfl, rfl⟩
      go_wp2_with fail
      go_ret
      exact ⟨rfl, E.out.below.trans (HB2.out.mono (by have := E.out.below.size; have := hb1.size; omega))⟩

theorem vecSums_walk {v : Value} {xs : List Int} {x1 : Int} {W : World} (hv : SlR W v (xs.map (Value.int .u32))) (hx : ∀ x ∈ xs, (Lit.int .u32 x).wf = true) (ht : (Lit.int .u8 x1).wf = true) :
    Calls Try.prog 7 #[v, .int .u8 x1] W fun e W' => e = .returned (.bool true) ∧ Below W.heap.size W W' := by
  have hb : 0 ≤ x1 ∧ x1 ≤ 255 := by
    simp [Lit.wf, IntKind.min, IntKind.max, IntKind.signed, IntKind.bits] at ht
    omega
  obtain ⟨t, rfl⟩ := Int.eq_ofNat_of_zero_le hb.1
  by_cases lx : xs.length ≤ 40
  · exact vecSums_in t hv (u32_of_wf hx) lx (by omega)
  · obtain ⟨ao, ca, rfl, hca, hma, _⟩ := hv.ints
    go_enter Try.func7, Try.ntmps7
    go_wp2_with (go_at_call 10; refine (awake_any W).mono ?_; rintro e w1 ⟨rfl, hb1⟩; have HB1 := Lib.hid hb1)
    go_ret
    exact ⟨rfl, HB1.out⟩

theorem vecSums_holds : Rows.VecSumsSaid :=
  OpenClaim.holds_of_wide 7 Try.f7 rfl rfl rfl rfl rfl rfl rfl ⟨rfl, rfl, rfl, rfl, rfl⟩ rfl rfl rfl rfl rfl (by kernel_rfl) Try.func7 (by kernel_rfl)
    (of_decide_eq_true (by kernel_rfl)) (by unfold Func.isWrapper; rw [if_neg (by decide +kernel)]; exact ⟨rfl, rfl⟩)
    (fun os started H enc _ => law_frame (C := Try.checked) (fn := Try.f7) (s := Rows.vecSumsSpec) (tb := 4) Try.own started (by kernel_rfl) Try.func7 Try.laidOut rfl (by kernel_rfl) Try.underlying4 (by kernel_rfl)
      (fun ds hd => by match ds, hd with | [_, _], _ => exact ⟨rfl, rfl, rfl⟩)
      (ChangeSpec.witness6 (enc := enc) (C := Try.checked) false ⟨#[], #[.slice none 0 0, .int .u8 0], []⟩ 8 (by kernel_rfl) (by kernel_rfl) (by kernel_rfl) (by kernel_rfl))
      (fun W base args ds p hval0 hA0 _ => by
        have hval : ∀ (j : Nat) t v, Try.f7.params[j]? = some t → args[j]? = some v → Value.okWide Try.prog W .any base t v := hval0
        have hA : DataW.TrodAll enc Try.prog W 0 (fun _ => true) true Try.f7.params.toList args.toList ds p := hA0
        rw [Try.params7] at hA hval
        obtain ⟨v0, v1, d0, d1, p0, p1, rfl, rfl, rfl, h0, h1⟩ := trodAll_two hA
        obtain ⟨x0, hx0, wx0⟩ := arg_ints Try.underlying39 Try.underlying40 (by kernel_rfl) (hval 0 39 v0 rfl rfl) h0
        obtain ⟨x1, rfl, rfl, rfl, wx1⟩ := open_int Try.underlying5 (hval 1 5 v1 rfl rfl) h1
        exact vecSums_walk hx0 wx0 wx1))

end Go.Proofs.Ytbdcbdngamglaaa
