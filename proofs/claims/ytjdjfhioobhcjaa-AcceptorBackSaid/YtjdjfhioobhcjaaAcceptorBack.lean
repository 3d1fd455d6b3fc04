/-
  AcceptorBack: votes that rise are got as they were put; cut anywhere they are none. No condition: every input.
-/
import Derived.Test.YtjdjfhioobhcjaaGetX
import Derived.Test.YtjdjfhioobhcjaaAccA
import Derived.Test.YtjdjfhioobhcjaaAccU
import Derived.Test.YtjdjfhioobhcjaaFrame
namespace Go.Proofs.Ytjdjfhioobhcjaa
open Go.ChangeShapes Go.WideShapes Go.ChangeAt Go.RowKit Go.Maps
set_option maxRecDepth 100000

/-- The slot behind some gaps. -/
def bkS (xs : List Int) : Int := xs.foldl (fun a g => a + (g + 1)) 0
theorem bkS_snoc (xs : List Int) (g : Int) : bkS (xs ++ [g]) = bkS xs + (g + 1) := by simp [bkS]
theorem bkS_take {xs : List Int} {k : Nat} {g : Int} (h : xs[k]? = some g) : bkS (xs.take (k + 1)) = bkS (xs.take k) + (g + 1) := by
  obtain ⟨q1, q2⟩ := List.getElem?_eq_some_iff.1 h
  rw [List.take_succ_eq_append_getElem q1, q2, bkS_snoc]
theorem bkS_bd {xs : List Int} (h8 : U8 xs) : ∀ k, 0 ≤ bkS (xs.take k) ∧ bkS (xs.take k) ≤ k * 256
  | 0 => by simp [bkS]
  | k + 1 => by
    have ih := bkS_bd h8 k
    cases hg : xs[k]? with
    | none =>
      have hl : xs.length ≤ k := by simpa using hg
      rw [List.take_of_length_le (by omega)]
      rw [List.take_of_length_le (by omega)] at ih
      omega
    | some g =>
      have := h8 g (List.mem_of_getElem? hg)
      rw [bkS_take hg]
      omega
/-- The votes so far. -/
def bkL (xs : List Int) (ys : List (List Int)) (k : Nat) : List Vt := (List.range k).map fun j => ⟨bkS (xs.take (j + 1)), xs.getD j 0 * 1000, ys.getD j []⟩
theorem bkL_len (xs : List Int) (ys : List (List Int)) (k : Nat) : (bkL xs ys k).length = k := by simp [bkL]
theorem bkL_succ {xs : List Int} {ys : List (List Int)} {k : Nat} {g : Int} {r : List Int} (hg : xs[k]? = some g) (hr : ys[k]? = some r) : bkL xs ys (k + 1) = bkL xs ys k ++ [⟨bkS (xs.take k) + (g + 1), g * 1000, r⟩] := by
  unfold bkL
  rw [List.range_succ, List.map_append]
  simp [bkS_take hg, List.getD_eq_getElem?_getD, hg, hr]
theorem bkL_rise {xs : List Int} (ys : List (List Int)) (h8 : U8 xs) {k : Nat} (hk : k ≤ xs.length) : (bkL xs ys k).Pairwise (fun a b => a.slot < b.slot) := by
  unfold bkL
  rw [List.pairwise_map]
  have up : ∀ (i j : Nat), i < j → j < k → bkS (xs.take (i + 1)) < bkS (xs.take (j + 1)) := by
    intro i j hij hjk
    induction j with
    | zero => omega
    | succ j ih =>
      have hg : xs[j + 1]? = some xs[j + 1] := List.getElem?_eq_getElem (by omega)
      have hb := h8 _ (List.mem_of_getElem? hg)
      rw [bkS_take hg]
      by_cases e : i = j
      · subst e; omega
      · have := ih (by omega) (by omega); omega
  exact (List.pairwise_lt_range (n := k)).imp_of_mem (fun {i j} hi hj hij => up i j hij (List.mem_range.1 hj))
theorem bkL_ok {xs : List Int} {ys : List (List Int)} (h8 : U8 xs) (hy8 : ∀ r ∈ ys, U8 r) {k : Nat} (hk : k ≤ xs.length) (hk2 : k ≤ ys.length) (h12 : k ≤ 12) (h40 : ∀ (j : Nat) r, j < k → ys[j]? = some r → r.length ≤ 40) :
    ∀ v ∈ bkL xs ys k, U1 v.slot ∧ U1 v.ballot ∧ U8 v.val ∧ v.val.length ≤ 40 := by
  intro v hv
  unfold bkL at hv
  obtain ⟨j, hj, rfl⟩ := List.mem_map.1 hv
  have hjk := List.mem_range.1 hj
  have hg : xs[j]? = some xs[j] := List.getElem?_eq_getElem (by omega)
  have hr : ys[j]? = some ys[j] := List.getElem?_eq_getElem (by omega)
  have b1 := bkS_bd h8 (j + 1)
  have b2 := h8 _ (List.mem_of_getElem? hg)
  simp only [List.getD_eq_getElem?_getD, hg, hr, Option.getD_some]
  exact ⟨⟨b1.1, by omega⟩, ⟨by omega, by omega⟩, hy8 _ (List.mem_of_getElem? hr), h40 j _ hjk hr⟩
theorem SlR.takeB {w : World} {ao : Option Addr} {n c : Nat} {cs : List Value} (h : SlR w (.slice ao n c) cs) (k : Nat) (hk : k ≤ cs.length) : SlR w (.slice ao k c) (cs.take k) := by
  obtain ⟨ao', c', hv, h1, h2, hx⟩ := h
  cases hv
  have e : (cs.take k).length = k := by simp; omega
  refine ⟨ao, c, by rw [e], by rw [e]; omega, by omega, fun i u hi => hx i u ?_⟩
  rw [List.getElem?_take] at hi
  split at hi
  · exact hi
  · cases hi
theorem SepW.chain1 {W w w' : World} {os : List Ob} (h : SepW W w os) {o : Ob} (k : SepW w w' [o]) : SepW W w' (o :: os) :=
  h.new k.below (k.sep.good o (by simp)) (k.sep.inv o (by simp)) (fun x hx => k.sep.base o (by simp) x hx)
theorem SepW.rowAppB {W w wx w' : World} {os : List Ob} (h : SepW W w os) (i : Nat) {v : Value} {e : TypeId} {z n n' g cap : Nat} {xs ys : List Value} (hi : os[i]? = some (obRow v e z n xs)) (hx : Below w.heap.size w wx) (hb : Below 0 wx w') (hor : v.ownBlock = some g ∨ wx.heap.size ≤ g)
    (hk : ∀ k, k < wx.heap.size → some k ≠ v.ownBlock → w'.heap[k]? = wx.heap[k]?) (hown : w'.ownsRow 0 e z (.slice (some ⟨g, 0, none⟩) n' cap) n' ys) : SepW W w' (os.set i (obRow (.slice (some ⟨g, 0, none⟩) n' cap) e z n' ys)) := by
  refine (h.step hx).set i hi (keep_app hb hk) (obRow_good ..) hown (fun k hk' => ?_)
  have e1 : g = k := by simpa [obRow, Value.ownBlock] using hk'
  subst e1
  exact hor
set_option maxHeartbeats 4000000 in
theorem acceptorBack_walk {W : World} {v0 v1 : Value} {xs : List Int} {ys : List (List Int)} {z : Int} (h0 : SlR W v0 (u8s xs)) (w0 : ∀ x ∈ xs, (Lit.int .u8 x).wf = true) (h1 : RowsK W .u8 v1 ys) (w1 : ∀ r ∈ ys, ∀ x ∈ r, (Lit.int .u8 x).wf = true) (w2 : (Lit.int .u16 z).wf = true) :
    Calls Try.prog 14 #[v0, v1, .int .u16 z] W fun e W' => e = .returned (.bool true) ∧ Below W.heap.size W W' := by
  have h8 := u8_of_wf w0
  have hy8 : ∀ r ∈ ys, U8 r := fun r hr => u8_of_wf (w1 r hr)
  simp [Lit.wf, IntKind.min, IntKind.max, IntKind.signed, IntKind.bits] at w2
  obtain ⟨z, rfl⟩ := Int.eq_ofNat_of_zero_le w2.1
  have hz := w2.2
  have H0 := Lib.hid h0
  have H8 := Lib.hid h8
  have HY := Lib.hid hy8
  obtain ⟨xo, xc, rfl, hxc, hxm⟩ := h0.form
  obtain ⟨yo, yc, rfl, hyc, hym, hyx⟩ := h1.row
  simp only [List.length_map] at H0 hxc ⊢
  have HX := Lib.hid hyx
  obtain ⟨i0, hi, hz0, hz1, hz2⟩ := info_parts Try.voteInfo
  clear h0 w0 h1 w1 h8 hy8 hyx w2
  go_enter Try.func14, Try.ntmps14
  go_wp2_with fail
  refine (aawake_any W).mono ?_
  rintro e w1 ⟨rfl, hb1⟩
  have HS1 : Hid (SepW W w1 [obRow (.slice none 0 0) 39 3 0 []]) := Lib.hid ((SepW.nil hb1).newRow (World.ownsRow_nil _ _ _ _) (Below.refl _ _))
  clear hb1
  by_cases hbig : xs.length ≤ 12 ∧ xs.length ≤ ys.length
  · obtain ⟨hL, hB⟩ := hbig
    have d1 : decide ((12 : Int) < (xs.length : Int)) = false := decide_eq_false (by omega)
    have d2 : decide ((ys.length : Int) < (xs.length : Int)) = false := decide_eq_false (by omega)
    have d3 : decide (ys.length < xs.length) = false := decide_eq_false (by omega)
    go_wp2_with fail
    go_loopw [10, 9, 8] (fun i sv ov wr => ∃ (k : Nat) (ao : Option Addr) (c : Nat) (vs : List Value), k ≤ xs.length ∧ i = .int .i64 k ∧ sv = .int .u64 (bkS (xs.take k)) ∧ ov = .slice ao k c ∧ SepW W wr [obRow (.slice ao k c) 39 3 k vs] ∧ VtC W vs (bkL xs ys k) ∧ ∀ (j : Nat) r, j < k → ys[j]? = some r → r.length ≤ 40) (fun i _ _ _ => xs.length - (intOf i).toNat)
    case atStart => exact ⟨0, none, 0, [], by omega, rfl, rfl, rfl, HS1.out, VtC.nil W, fun j r hj => by omega⟩
    case round =>
      clear HS1
      obtain ⟨k, ao, c, vs, hk, rfl, rfl, rfl, hsep, hvc, h40⟩ := hrel
      have HSk := Lib.hid hsep
      have HV := Lib.hid hvc
      have H40 := Lib.hid h40
      obtain ⟨hs0, hs1⟩ := bkS_bd H8.out k
      clear hsep hvc h40
      by_cases hlt : k < xs.length
      · have hki : (k : Int) < (xs.length : Int) := by omega
        have hkj : (k : Int) < (ys.length : Int) := by omega
        have hkn : k < ys.length := by omega
        obtain ⟨g, hg⟩ : ∃ g, xs[k]? = some g := ⟨_, List.getElem?_eq_getElem hlt⟩
        obtain ⟨hg0, hg1⟩ := H8.out g (List.mem_of_getElem? hg)
        obtain ⟨_, _, hexo, _, _, hxx⟩ := id H0.out
        simp only [List.length_map] at hexo
        cases hexo
        obtain ⟨xa, rfl, hxc0⟩ := hxx k (.int .u8 g) (by rw [List.getElem?_map, hg]; rfl)
        have hr : ys[k]? = some ys[k] := List.getElem?_eq_getElem hkn
        obtain ⟨ya, u, rfl, hyc0, hsl⟩ := HX.out k hkn
        generalize ys[k] = r at *
        obtain ⟨ro, rc, rfl, hr1, hr2⟩ := hsl.form
        simp only [List.length_map] at hyc0 hsl hr1
        have HC : Hid (∀ w' : World, Below W.heap.size W w' → w'.cell? (xa.add k) = some (.int .u8 g) ∧ w'.cell? (ya.add k) = some (.slice ro r.length rc)) := Lib.hid fun w' hb =>
          ⟨(hb.cell (World.block_lt_of_cell? _ _ hxc0)).trans hxc0, (hb.cell (World.block_lt_of_cell? _ _ hyc0)).trans hyc0⟩
        obtain ⟨e0, e1⟩ := HC.out wr HSk.out.below
        have HLs := Lib.hid (bkL_succ hg hr)
        have HBs := Lib.hid (bkS_take hg)
        have HSl := Lib.hid hsl
        have HR := Lib.hid hr
        clear hg hr hxx hxc0 hyc0 hsl
        have hk40 : k ≤ 1099511627776 := by omega
        have hwg : IntKind.u64.wrap (g * 1000) = g * 1000 := IntWalk.u64_in _ (by omega)
        have hwu : IntKind.u64.wrap g = g := IntWalk.u64_in _ (by omega)
        by_cases h40 : r.length ≤ 40
        · have d4 : decide ((40 : Int) < (r.length : Int)) = false := decide_eq_false (by omega)
          have HO := Lib.hid (HSk.out.get 0 rfl : World.ownsRow wr 0 39 3 (.slice ao k c) k vs)
          have hbd := HSk.out.below.drew
          have HBd := Lib.hid hbd
          generalize bkS (xs.take k) = sk at *
          have HU : Hid (∀ u ∈ (#[.int .u64 (sk + (g + 1)), .int .u64 (g * 1000), .slice ro r.length rc] : Array Value).toList, u.oneCell' = true) := Lib.hid (by intro u hu; simp at hu; rcases hu with rfl | rfl | rfl <;> rfl)
          clear hbd
          go_wp2_with fail
          go_region_held3 (fun w' => w'.cell? (xa.add k) = some (.int .u8 g) ∧ w'.cell? (ya.add k) = some (.slice ro r.length rc)) (first | go_keep)
            (first
              | (refine step_appS rfl (.tmp 49) (.tmp 62) 33 rfl 0 39 i0 _ 3 40 Try.underlying33 hi hz0 hz1 hz2 rfl (by decide) (by decide) rfl rfl (heap_alloc_new _ _) rfl (HO.out.drew.alloc _) HU.out hk40 (Nat.zero_le _) ?_
                 intro g7 cap7 w7 hown7 hb7 hor7 hk7
                 have HS7 := Lib.hid (HSk.out.rowAppB 0 rfl (by first | exact ((Below.refl _ _).alloc (Nat.le_refl _) _).drew | exact (Below.refl _ _).drew.alloc (Nat.le_refl _) _) hb7 hor7 hk7 hown7)
                 obtain ⟨e0, e1⟩ := HC.out _ HS7.out.below
                 clear hown7 hb7 hor7 hk7))
          clear e0 e1
          go_wp2_with fail
          go_roundw
          case rel => exact ⟨k + 1, _, _, _, by omega, by go_num, by rw [HBs.out], rfl, HS7.out, by rw [HLs.out]; exact HV.out.snoc (s := (⟨sk + (g + 1), g * 1000, r⟩ : Vt)) HSl.out, fun j r' hj hr' => by
            by_cases e : j = k
            · subst e; rw [HR.out] at hr'; cases hr'; exact h40
            · exact H40.out j r' (by omega) hr'⟩
          case measure => simp [intOf]; omega
        · have d4 : (40 : Int) < (r.length : Int) := by omega
          go_wp2_with fail
          go_ret
          exact ⟨rfl, HSk.out.below⟩
      · have hkd : decide ((k : Int) < (xs.length : Int)) = false := decide_eq_false (by omega)
        have hok := bkL_ok H8.out HY.out hk (by omega) (by omega) H40.out
        have hrise := bkL_rise ys H8.out hk
        have hll := bkL_len xs ys k
        have hvl := VtL.of_own (HSk.out.get 0 rfl : World.ownsRow wr 0 39 3 (.slice ao k c) k vs) (HV.out.below HSk.out.below (Nat.le_refl _))
        generalize bkL xs ys k = L at *
        subst hll
        have HV0 := Lib.hid hvl
        have HU : Hid (∀ s ∈ L, U1 s.slot ∧ U1 s.ballot) := Lib.hid fun s hs => ⟨(hok s hs).1, (hok s hs).2.1⟩
        have HM : Hid (∀ s ∈ L, s.val.length ≤ 100000) := Lib.hid fun s hs => by have := (hok s hs).2.2.2; omega
        have hG : ∀ v ∈ L, (0 ≤ v.slot ∧ v.slot < 18446744073709551616) ∧ (0 ≤ v.ballot ∧ v.ballot < 18446744073709551616) ∧ v.val.length ≤ 32768 := fun v hv => by
          obtain ⟨⟨a1, a2⟩, ⟨b1, b2⟩, _, c1⟩ := hok v hv
          omega
        have hpl : (putV L).length ≤ 10000 := by
          have h1 := putVs_len (l := L) (M := 40) (fun v hv => (hok v hv).2.2.2)
          have h2 := sz_le (L.length : Int)
          unfold putV
          rw [List.length_append, putU_len]
          have h3 : L.length * (27 + 40) ≤ 12 * (27 + 40) := Nat.mul_le_mul_right _ (by omega)
          omega
        have hp0 : 0 < (putV L).length := by unfold putV; rw [List.length_append, putU_len]; omega
        have HP8 : Hid (U8 (putV L)) := Lib.hid (putV_U8 (fun v hv => (hok v hv).2.2.1))
        have HG1 := Lib.hid (getV_put hG hrise (by omega))
        have HG2 := Lib.hid (getV_cut hG hrise (by omega) (z % (putV L).length) (Nat.mod_lt _ hp0))
        have hml : z % (putV L).length < (putV L).length := Nat.mod_lt _ hp0
        have hLl : L.length ≤ 12 := by omega
        clear hok hrise hvl hG HX
        go_wp2_with fail
        refine (put_any HV0.out HU.out (by omega) HM.out).mono ?_
        rintro e w4 ⟨po, pc, rfl, ho4, hb4⟩
        have HS4 := Lib.hid (HSk.out.newRow ho4 hb4)
        have HV4 := Lib.hid (HV0.out.below hb4 (Nat.le_refl _))
        obtain ⟨_, _, epc, hpc1, hpc2⟩ := own_form ho4
        cases epc
        clear ho4 hb4 HV0
        go_wp2_with fail
        refine (get_any (HS4.out.row 0 rfl) HP8.out (by omega)).mono ?_
        rintro e w5 ⟨mo, mc, mvs, rfl, hs5⟩
        have HV5 := Lib.hid (HV4.out.below hs5.below (Nat.le_refl _))
        have HS5 := Lib.hid (HS4.out.chain1 hs5)
        rw [HG1.out] at HS5 ⊢
        simp only at HS5 ⊢
        clear hs5 HV4
        have hne : (((putV L).length : Int) == 0) = false := by rw [beq_eq_false_iff_ne]; omega
        have hne2 : ¬ (putV L).length = 0 := by omega
        have hmpc : z % (putV L).length ≤ pc := by omega
        have hmi : ((z % (putV L).length : Nat) : Int) ≤ (pc : Int) := by omega
        go_wp2_with fail
        have hst := (HS5.out.row 1 rfl).takeB (z % (putV L).length) (by rw [List.length_map]; omega)
        rw [← List.map_take] at hst
        have hlt : ((putV L).take (z % (putV L).length)).length = z % (putV L).length := by rw [List.length_take]; omega
        refine (get_any hst (fun y hy => HP8.out y (List.mem_of_mem_take hy)) (by rw [hlt]; omega)).mono ?_
        rintro e w6 ⟨no, nc, nvs, rfl, hs6⟩
        have HV6 := Lib.hid (HV5.out.below hs6.below (Nat.le_refl _))
        have HS6 := Lib.hid (HS5.out.chain1 hs6)
        rw [HG2.out]
        clear hs6 hst HV5
        generalize getV ((putV L).take (z % (putV L).length)) = gq at *
        go_wp2_with fail
        refine (votes_any HV6.out (by omega)).mono ?_
        rintro e w7 ⟨lo, lc, rfl, ho7, hb7⟩
        have HS7 := Lib.hid (HS6.out.newRef ho7 hb7)
        clear ho7 hb7
        go_wp2_with fail
        refine (HS7.out.votes 2 rfl (by omega)).mono ?_
        rintro e w8 ⟨qo, qc, rfl, hs8⟩
        have HS8 := Lib.hid hs8
        clear hs8
        go_wp2_with fail
        refine (HS8.out.same 1 0 rfl rfl).mono ?_
        rintro e w9 ⟨rfl, hs9⟩
        have HS9 := Lib.hid hs9
        clear hs9
        go_wp2_with fail
        go_ret
        exact ⟨rfl, HS9.out.below⟩
  · rcases Nat.lt_or_ge 12 xs.length with h12 | h12
    · have d1 : decide ((12 : Int) < (xs.length : Int)) = true := decide_eq_true (by omega)
      go_wp2_with fail
      go_ret
      exact ⟨rfl, HS1.out.below⟩
    · have d1 : decide ((12 : Int) < (xs.length : Int)) = false := decide_eq_false (by omega)
      have d2 : decide ((ys.length : Int) < (xs.length : Int)) = true := decide_eq_true (by omega)
      have d3 : ys.length < xs.length := by omega
      go_wp2_with fail
      go_ret
      exact ⟨rfl, HS1.out.below⟩
theorem acceptorBack_holds : Rows.AcceptorBackSaid :=
  OpenClaim.holds_of_wide 14 Try.f14 rfl rfl rfl rfl rfl rfl rfl ⟨rfl, rfl, rfl, rfl, rfl⟩ rfl rfl rfl rfl rfl (by kernel_rfl) Try.func14 (by kernel_rfl)
    (of_decide_eq_true (by kernel_rfl)) (by unfold Func.isWrapper; rw [if_neg (by decide +kernel)]; exact ⟨rfl, rfl⟩)
    (fun os started H enc _ => law_frame (C := Try.checked) (fn := Try.f14) (s := Rows.acceptorBackSpec) (tb := 4) Try.own started (by kernel_rfl) Try.func14 Try.laidOut rfl (by kernel_rfl) Try.underlying4 (by kernel_rfl)
      (fun ds hd => by match ds, hd with | [_, _, _], _ => exact ⟨rfl, rfl, rfl⟩)
      (ChangeSpec.witness6 (enc := enc) (C := Try.checked) false ⟨#[], #[.slice none 0 0, .slice none 0 0, .int .u16 0], []⟩ 8 (by kernel_rfl) (by kernel_rfl) (by kernel_rfl) (by kernel_rfl))
      (fun W base args ds p hval0 hA0 _ => by
        have hval : ∀ (j : Nat) t v, Try.f14.params[j]? = some t → args[j]? = some v → Value.okWide Try.prog W .any base t v := hval0
        have hA : DataW.TrodAll enc Try.prog W 0 (fun _ => true) true Try.f14.params.toList args.toList ds p := hA0
        rw [Try.params14] at hA hval
        obtain ⟨v0, v1, v2, d0, d1, d2, p0, p1, p2, rfl, rfl, rfl, h0, h1, h2⟩ := trodAll_three hA
        obtain ⟨x0, hx0, wx0⟩ := arg_ints Try.underlying30 Try.underlying5 (by kernel_rfl) (hval 0 30 v0 rfl rfl) h0
        obtain ⟨x1, hx1, wx1⟩ := arg_rowsK Try.underlying89 Try.underlying30 Try.underlying5 (by kernel_rfl) (by kernel_rfl) (hval 1 89 v1 rfl rfl) h1
        obtain ⟨x2, rfl, rfl, rfl, wx2⟩ := open_int Try.underlying103 (hval 2 103 v2 rfl rfl) h2
        exact acceptorBack_walk hx0 wx0 hx1 wx1 wx2))

end Go.Proofs.Ytjdjfhioobhcjaa
