/-
  FoldTrims: of any lengths of up to 4 segments, any place to give up to, any more: positions below what was given up are told so, all others are found; giving up too much is told; the low end never sinks. No condition: every input.
-/
import Derived.Test.YtabanackdjlcmaaFoldV
import Derived.Test.YtabanackdjlcmaaFrame
namespace Go.Proofs.Ytabanackdjlcmaa
open Go.ChangeShapes Go.WideShapes Go.ChangeAt Go.RowKit Go.Maps
set_option maxRecDepth 100000

theorem u64s_app (a b : List Int) : u64s (a ++ b) = u64s a ++ u64s b := List.map_append
/-- The lengths that bytes make. -/
def lensT (xs : List Int) : List Int := xs.map fun x => x % 16 + 1
theorem lensT_ok (xs : List Int) : ∀ x ∈ lensT xs, 1 ≤ x ∧ x ≤ 16 := by
  intro x hx; unfold lensT at hx; simp at hx; obtain ⟨y, _, rfl⟩ := hx; omega
theorem newSp_nil {x : Int} {xs : List Int} (h : ∀ y ∈ xs, 0 < y) (k : Nat) (hk : k ≤ xs.length) : manyOf (newSp [] x xs k) = xs.take k := by
  have h0 : ∀ i : Nat, atI [] i = 0 := fun i => by unfold atI; split <;> simp
  induction k with
  | zero => simp [newSp, manyOf]
  | succ k ih =>
    have hk' : k < xs.length := by omega
    have he : atI xs k = xs[k] := by unfold atI; rw [if_pos (by omega)]; simp [hk']
    rw [newSp_succ, manyOf_app, ih (by omega), List.take_succ_eq_append_getElem hk', h0, he, if_pos (h _ (List.getElem_mem hk'))]
    simp [manyOf]
theorem leB_nil {xs : List Int} (h : U64 xs) : leB [] xs = true := le_iff.2 fun i => by
  have h0 : ∀ i : Nat, atI [] i = 0 := fun i => by unfold atI; split <;> simp
  rw [h0]; exact (h.at i).1
theorem cutI_pos {xs : List Int} (h : ∀ y ∈ xs, 0 < y) : cutI xs = xs := by
  rcases xs.eq_nil_or_concat with rfl | ⟨ys, y, rfl⟩
  · rfl
  · rw [List.concat_eq_append]; exact cutI_snoc ys y (by have := h y (by simp); omega)
theorem cut_first {F : FS} {x : Int} {sg : Nat} {xs : List Int} (hs : F.sh x = some ⟨x, sg, [], false⟩) (hl : xs.length ≤ sg) (hp : ∀ y ∈ xs, 0 < y) (hu : U64 xs) (hsum : F.n + sumI xs ≤ 18446744073709551615) :
    cutE F [(x, xs)] = 0 ∧ manyOf (rowsSp F [(x, xs)]) = xs := by
  have hr : rowE F (x, xs) = 0 := by
    unfold rowE; simp only; rw [hs]; simp only; rw [if_neg (by decide), if_neg (by rw [leB_nil hu]; simp; omega)]
  have hm : manyOf (rowsSp F [(x, xs)]) = xs := by
    have e : rowsSp F [(x, xs)] = rowSp F (x, xs) := by simp [rowsSp]
    rw [e]
    unfold rowSp lensOf
    simp only
    rw [hs]
    simp only
    rw [newSp_nil hp _ (Nat.le_refl _), List.take_length]
  refine ⟨?_, hm⟩
  unfold cutE
  rw [hm]
  have : sumE (F.n :: xs) = 0 := by unfold sumE; rw [if_pos (by rw [sumI_cons]; omega)]
  rw [this]
  simp [rowsE, hr]
theorem rowsB_pos {x : Int} {xs : List Int} (hx : 0 ≤ x ∧ x < 8) (hp : ∀ y ∈ xs, 0 < y) (hl : xs.length ≤ 4) : rowsB [(x, xs)] = true := by
  refine rowsB_true (fun i hi => ?_)
  have : i = 0 := by simp at hi; omega
  subst this
  unfold rowOkAt
  simp [hx.1, hx.2, cutI_pos hp, hl]
theorem sumI_small {xs : List Int} (h : ∀ x ∈ xs, 1 ≤ x ∧ x ≤ 16) : 0 ≤ sumI xs ∧ sumI xs ≤ 16 * xs.length := by
  induction xs with
  | nil => simp [sumI]
  | cons x r ih =>
    have h1 := ih (fun y hy => h y (by simp [hy]))
    have h2 := h x (by simp)
    rw [sumI_cons, List.length_cons]; omega
/-- The state behind the cut, and behind the trims. -/
def tr1 (ls : List Int) : FS := cutF (addR emptyFS 3 4) [(3, ls)]
theorem tr_at : (addR emptyFS 3 4).sh 3 = some ⟨3, 4, [], false⟩ := rfl
theorem tr_cut {ls : List Int} (h : ∀ x ∈ ls, 1 ≤ x ∧ x ≤ 16) (hl : ls.length ≤ 4) : cutE (addR emptyFS 3 4) [(3, ls)] = 0 ∧ cutR (addR emptyFS 3 4) [(3, ls)] = tr1 ls ∧ (tr1 ls).n = sumI ls ∧ (tr1 ls).low = 0 ∧ ∃ L, Dense (tr1 ls) L ∧ L.length ≤ 4 ∧ ∀ s ∈ L, s.off ≤ 1000 := by
  have hs := sumI_small h
  have hu : U64 ls := fun x hx => by have := h x hx; omega
  obtain ⟨h1, h2⟩ := cut_first tr_at hl (fun y hy => by have := h y hy; omega) hu (by show (0 : Int) + sumI ls ≤ _; omega)
  refine ⟨h1, by unfold cutR tr1; rw [if_pos h1], ?_, rfl, _, Dense.cut (Dense.empty.same (G := addR emptyFS 3 4) rfl rfl) (rowsSp_ok (fun a s ha => ?_) (by intro r hr; simp at hr; subst hr; exact hu)), ?_, ?_⟩
  · show (0 : Int) + sumI (manyOf (rowsSp (addR emptyFS 3 4) [(3, ls)])) = _
    rw [h2]; omega
  · have : (if a = 3 then some (⟨3, 4, [], false⟩ : Sh) else none) = some s := ha
    split at this
    · cases this; intro x hx; cases hx
    · cases this
  · have := congrArg List.length h2
    simp [manyOf] at this
    simp [this]; exact hl
  · intro s hs
    simp at hs
    have e : rowsSp (addR emptyFS 3 4) [(3, ls)] = newSp [] 3 ls ls.length := by
      have e : rowsSp (addR emptyFS 3 4) [(3, ls)] = rowSp (addR emptyFS 3 4) (3, ls) := by simp [rowsSp]
      rw [e]; rfl
    rw [e] at hs
    have := newSp_mem hu (by intro x hx; cases hx) hs
    have h0 := this.2.2.2.2.2.1
    unfold atI at h0
    have : s.off = 0 := by rw [h0]; split <;> simp
    omega

def tr2 (ls : List Int) (k : Int) : FS := { tr1 ls with low := k }
theorem tr_k {ls : List Int} {k : Int} (h0 : 0 ≤ k) (h1 : k ≤ (tr1 ls).n) : trimE (tr1 ls) k = 0 ∧ trimR (tr1 ls) k = tr2 ls k := by
  unfold trimE trimR
  rw [if_pos h1, if_pos h1]
  refine ⟨rfl, ?_⟩
  unfold trimF tr2
  have : max (tr1 ls).low k = k := by show max 0 k = k; omega
  rw [this]
theorem tr_m {ls : List Int} {k p : Int} (h1 : (tr1 ls).n < p) : trimE (tr2 ls k) p = 36 ∧ trimR (tr2 ls k) p = tr2 ls k := by
  have : ¬ p ≤ (tr2 ls k).n := by show ¬ p ≤ (tr1 ls).n; omega
  unfold trimE trimR
  rw [if_neg this, if_neg this]; exact ⟨rfl, rfl⟩
theorem tr_h {ls : List Int} {k p : Int} (h1 : p ≤ k) (h2 : k ≤ (tr1 ls).n) : trimE (tr2 ls k) p = 0 ∧ trimR (tr2 ls k) p = tr2 ls k := by
  have : p ≤ (tr2 ls k).n := by show p ≤ (tr1 ls).n; omega
  unfold trimE trimR
  rw [if_pos this, if_pos this]
  refine ⟨rfl, ?_⟩
  unfold trimF tr2
  simp only
  have : max k p = k := by omega
  rw [this]

set_option maxHeartbeats 4000000 in
theorem foldTrims_walk {W : World} {v0 : Value} {xs : List Int} {lo mo : Int} (h0 : SlR W v0 (u8s xs)) (w0 : ∀ x ∈ xs, (Lit.int .u8 x).wf = true) (wl : (Lit.int .u8 lo).wf = true) (wm : (Lit.int .u8 mo).wf = true) :
    Calls Try.prog 7 #[v0, .int .u8 lo, .int .u8 mo] W fun e W' => e = .returned (.bool true) ∧ Below W.heap.size W W' := by
  simp [Lit.wf, IntKind.min, IntKind.max, IntKind.signed, IntKind.bits] at wl wm
  have HU := Lib.hid (u8_of_wf w0)
  have H0 := Lib.hid h0
  obtain ⟨j0, hj, hy0, hy1, hy2⟩ := info_parts Try.vecInfo
  obtain ⟨ao, ac, rfl, hac, ham⟩ := h0.form
  simp only [List.length_map] at *
  clear h0 w0
  by_cases hlen : xs.length ≤ 4
  rotate_left
  · have hli : (4 : Int) < (xs.length : Int) := by omega
    go_enter Try.func7, Try.ntmps7
    go_wp2_with fail
    refine (fawake_any W).mono ?_
    rintro e w1 ⟨rfl, hb1⟩
    have HB1 := Lib.hid hb1
    clear hb1
    go_wp2_with fail
    go_ret
    exact ⟨rfl, HB1.out⟩
  · have hli : decide ((4 : Int) < (xs.length : Int)) = false := decide_eq_false (by omega)
    go_enter Try.func7, Try.ntmps7
    go_wp2_with fail
    refine (fawake_any W).mono ?_
    rintro e w1 ⟨rfl, hb1⟩
    have HB1 := Lib.hid hb1
    clear hb1
    go_wp2_with fail
    refine (fnew_w W w1 HB1.out).mono ?_
    rintro e w2 ⟨b0, rfl, hf2⟩
    have HF2 := Lib.hid hf2
    have H2 := Lib.hid (H0.out.below hf2.below (Nat.le_refl _))
    clear hf2
    go_wp2_with fail
    go_loopw [10, 9] (fun i v wr => ∃ k : Nat, k ≤ xs.length ∧ i = .int .i64 k ∧ wr.ownsRow w2.heap.size 39 1 v k (u64s (lensT (xs.take k))) ∧ Below w2.heap.size w2 wr) (fun i _ _ => xs.length - (intOf i).toNat)
    case atStart => exact ⟨0, by omega, rfl, World.ownsRow_nil _ _ _ _, Below.refl _ _⟩
    case round =>
      obtain ⟨k, hk, rfl, hown, hbw⟩ := hrel
      have HOwn := Lib.hid hown
      have HBw := Lib.hid hbw
      have hbs := hbw.size
      clear hown hbw
      obtain ⟨vo, vc, hve, _, _⟩ := own_form HOwn.out
      subst hve
      by_cases hlt : k < xs.length
      · obtain ⟨xo, xc, hxe, _, _, hxx⟩ := (H2.out.below HBw.out (Nat.le_refl _))
        simp only [List.length_map] at hxe
        cases hxe
        obtain ⟨xa, rfl, hxm⟩ := hxx k (.int .u8 xs[k]) (by simp [hlt])
        have hxb := HU.out xs[k] (List.getElem_mem hlt)
        have HTk : Hid (lensT (xs.take (k + 1)) = lensT (xs.take k) ++ [xs[k] % 16 + 1]) := Lib.hid (by unfold lensT; rw [List.take_succ_eq_append_getElem hlt, List.map_append]; rfl)
        have hki : (k : Int) < (xs.length : Int) := by omega
        have hkl : k ≤ 1099511627776 := by omega
        generalize xs[k] = x at *
        clear hxx
        go_wp2_with (first
          | (at_builtin; refine wpList_app1 rfl (.tmp 31) (.tmp 39) 27 rfl w2.heap.size 39 j0 (.int .u64 0) 8 Try.underlying27 hj hy0 hy1 hy2 rfl (by decide) rfl rfl HOwn.out rfl hkl hbs ?_
             intro g8 cap8 w8 hown8 hb8 hor8 hkp8
             have HOw8 := Lib.hid hown8
             have HB8 := Lib.hid hb8
             clear hown8 hb8 hor8 hkp8)
          | fail)
        go_roundw
        case rel => exact ⟨k + 1, by omega, by go_num, by rw [HTk.out, u64s_app]; exact HOw8.out, HBw.out.trans HB8.out⟩
        case measure => simp [intOf]; omega
      · have hkl : k = xs.length := by omega
        subst hkl
        rw [List.take_length] at HOwn
        obtain ⟨ls, hls⟩ : ∃ ls, ls = lensT xs := ⟨_, rfl⟩
        have hll : xs.length = ls.length := by rw [hls]; simp [lensT]
        have hlo := lensT_ok xs
        rw [← hls] at HOwn hlo
        have HLo := Lib.hid hlo
        have hll4 : ls.length ≤ 4 := by omega
        have HLl := Lib.hid hll
        clear hll
        have HFv := Lib.hid (HF2.out.v HBw.out)
        clear hls hlo HU H0 H2
        go_wp2_with fail
        refine (HFv.out.added (shard := 3) (sg := 4) (by decide) (by decide) (by decide) (by decide)).mono ?_
        rintro e w4 ⟨rfl, hf4, hk4⟩
        rw [show addE emptyFS 3 = 0 from rfl]
        have hoff : Off (fun k => ¬ (w2.heap.size ≤ k ∧ k < wr.heap.size)) (.slice vo xs.length vc) := fun k hk hn => hn (HOwn.out.lt k hk)
        have hown4 := own_keepS hk4 HOwn.out hoff
        have hA5 := (Below.refl w4.heap.size w4).alloc (Nat.le_refl _) (.cells #[.int .i64 3, .slice vo xs.length vc] 37)
        have HF5 := Lib.hid (hf4.more hA5)
        have hsl5 := (SlR.of_own hown4).below hA5 (Nat.le_refl _)
        have hrd : RowsD (fun k => ¬ ((w2.heap.size ≤ k ∧ k < wr.heap.size) ∨ (w4.heap.size ≤ k ∧ k < (w4.alloc (.cells #[.int .i64 3, .slice vo xs.length vc] 37)).heap.size))) (w4.alloc (.cells #[.int .i64 3, .slice vo xs.length vc] 37)) (.slice (some ⟨w4.heap.size, 0, none⟩) 1 1) [(3, ls)] :=
          RowsD.one (t := 37) (heap_alloc_new w4 _) hsl5 (fun hn => hn (Or.inr ⟨Nat.le_refl _, by simp⟩)) (fun k hk hn => hn (Or.inl (HOwn.out.lt k hk)))
        have HRd := Lib.hid hrd
        obtain ⟨hc1, hc2, hn1, hlow, L, hdn, hLl, hLo⟩ := tr_cut HLo.out hll4
        have hs16 := sumI_small HLo.out
        have HC1 := Lib.hid hc1
        have HC2 := Lib.hid hc2
        have HLow := Lib.hid hlow
        have HDn := Lib.hid hdn
        have HLx := Lib.hid hLo
        clear hf4 hk4 hoff hown4 hA5 hsl5 hrd hc1 hc2 hlow hdn hLo
        go_wp2_with fail
        refine (HF5.out.cut HRd.out (by simp) (rowsB_pos (by decide) (fun y hy => by have := HLo.out y hy; omega) hll4) (by intro r hr; simp at hr; subst hr; intro x hx; have := HLo.out x hx; omega) (by decide) (by decide)).mono ?_
        rintro e w6 ⟨rfl, hf6, _⟩
        rw [HC1.out]
        rw [HC2.out] at hf6
        have HF6 := Lib.hid hf6.asW
        obtain ⟨n, hn⟩ : ∃ n, n = sumI ls := ⟨_, rfl⟩
        rw [← hn] at hn1 hs16
        have HN1 := Lib.hid hn1
        have hn0 : 0 ≤ n ∧ n ≤ 64 := by omega
        clear hf6 hn1 hn HF5 HRd
        have hw1 : IntKind.u64.wrap (n + 1) = n + 1 := IntWalk.u64_in _ (by omega)
        have hnz : (n + 1 == 0) = false := by rw [beq_eq_false_iff_ne]; omega
        go_wp2_with fail
        refine (HF6.out.len).mono ?_
        rintro e w7 ⟨rfl, rfl⟩
        rw [HN1.out]
        obtain ⟨k, hk, hk0⟩ : ∃ k, k = lo % (n + 1) ∧ 0 ≤ k ∧ k ≤ n := ⟨_, rfl, Int.emod_nonneg _ (by omega), by have := Int.emod_lt_of_pos lo (show 0 < n + 1 by omega); omega⟩
        go_wp2_with fail
        rw [← hk]
        clear hk
        have hkn : k ≤ (tr1 ls).n := by rw [HN1.out]; exact hk0.2
        have HKn := Lib.hid hkn
        clear hkn
        refine (HF6.out.trim hk0.1).mono ?_
        rintro e w8 ⟨rfl, hf8⟩
        rw [(tr_k hk0.1 HKn.out).1]
        rw [(tr_k hk0.1 HKn.out).2] at hf8
        have HF8 := Lib.hid hf8
        have hw2 : IntKind.u64.wrap (n + 1 + mo) = n + 1 + mo := IntWalk.u64_in _ (by omega)
        clear hf8 HF6
        go_wp2_with fail
        refine (HF8.out.trim (pos := n + 1 + mo) (by omega)).mono ?_
        rintro e w9 ⟨rfl, hf9⟩
        rw [(tr_m (ls := ls) (k := k) (p := n + 1 + mo) (by rw [HN1.out]; omega)).1]
        rw [(tr_m (ls := ls) (k := k) (p := n + 1 + mo) (by rw [HN1.out]; omega)).2] at hf9
        have HF9 := Lib.hid hf9
        have hw3 : IntKind.u64.wrap (k / 2) = k / 2 := IntWalk.u64_in _ (by omega)
        clear hf9 HF8
        go_wp2_with fail
        refine (HF9.out.trim (pos := k / 2) (by omega)).mono ?_
        rintro e w10 ⟨rfl, hf10⟩
        rw [(tr_h (ls := ls) (k := k) (p := k / 2) (by omega) HKn.out).1]
        rw [(tr_h (ls := ls) (k := k) (p := k / 2) (by omega) HKn.out).2] at hf10
        have HF10 := Lib.hid hf10
        clear hf10 HF9
        go_wp2_with fail
        go_loopw [13] (fun i wr => ∃ p : Nat, (p : Int) ≤ n ∧ i = .int .u64 p ∧ FoldW W (.pointer (some ⟨b0, 0, none⟩)) wr (0 + 1 + 9) (tr2 ls k)) (fun i _ => (n - intOf i).toNat)
        case atStart => exact ⟨0, by omega, rfl, HF10.out⟩
        case round =>
          obtain ⟨p, hp, rfl, hfp⟩ := hrel
          have HFp := Lib.hid hfp
          clear hfp
          by_cases hpn : (p : Int) < n
          · have hwp : IntKind.u64.wrap ((p : Int) + 1) = (p : Int) + 1 := IntWalk.u64_in _ (by omega)
            by_cases hpk : (p : Int) < k
            · go_wp2_with fail
              refine (HFp.out.gone (by exact hpk)).mono ?_
              rintro e w' ⟨rfl, rfl⟩
              go_wp2_with fail
              go_roundw
              case rel => exact ⟨p + 1, by omega, by go_num, HFp.out⟩
              case measure => simp [intOf]; omega
            · have hpk' : k ≤ (p : Int) := by omega
              have hpd : decide ((p : Int) < k) = false := decide_eq_false hpk
              go_wp2_with fail
              refine (HFp.out.findD (HDn.out.same rfl rfl) (pos := (p : Int)) hpk' (by show (p : Int) < (tr1 ls).n; rw [HN1.out]; exact hpn) (by omega) (by omega) (fun s hs => by have := HLx.out s hs; omega)).mono ?_
              rintro e w' ⟨⟨a, s, _, _, _, rfl⟩, hf'⟩
              have HF' := Lib.hid hf'
              clear hf'
              go_wp2_with fail
              go_roundw
              case rel => exact ⟨p + 1, by omega, by go_num, HF'.out⟩
              case measure => simp [intOf]; omega
          · have hpe : (p : Int) = n := by omega
            have hpd : decide ((p : Int) < n) = false := decide_eq_false hpn
            go_wp2_with fail
            refine (HFp.out.low).mono ?_
            rintro e w' ⟨rfl, rfl⟩
            rw [show (tr2 ls k).low = k from rfl]
            go_wp2_with fail
            refine (HFp.out.len).mono ?_
            rintro e w' ⟨rfl, rfl⟩
            rw [show (tr2 ls k).n = (tr1 ls).n from rfl, HN1.out]
            go_wp2_with fail
            go_ret
            exact ⟨by first | rfl | simp, HFp.out.below⟩
theorem foldTrims_holds : Rows.FoldTrimsSaid :=
  OpenClaim.holds_of_wide 7 Try.f7 rfl rfl rfl rfl rfl rfl rfl ⟨rfl, rfl, rfl, rfl, rfl⟩ rfl rfl rfl rfl rfl (by kernel_rfl) Try.func7 (by kernel_rfl)
    (of_decide_eq_true (by kernel_rfl)) (by unfold Func.isWrapper; rw [if_neg (by decide +kernel)]; exact ⟨rfl, rfl⟩)
    (fun os started H enc _ => law_frame (C := Try.checked) (fn := Try.f7) (s := Rows.foldTrimsSpec) (tb := 4) Try.own started (by kernel_rfl) Try.func7 Try.laidOut rfl (by kernel_rfl) Try.underlying4 (by kernel_rfl)
      (fun ds hd => by match ds, hd with | [_, _, _], _ => exact ⟨rfl, rfl, rfl⟩)
      (ChangeSpec.witness6 (enc := enc) (C := Try.checked) false ⟨#[], #[.slice none 0 0, .int .u8 0, .int .u8 0], []⟩ 8 (by kernel_rfl) (by kernel_rfl) (by kernel_rfl) (by kernel_rfl))
      (fun W base args ds p hval0 hA0 _ => by
        have hval : ∀ (j : Nat) t v, Try.f7.params[j]? = some t → args[j]? = some v → Value.okWide Try.prog W .any base t v := hval0
        have hA : DataW.TrodAll enc Try.prog W 0 (fun _ => true) true Try.f7.params.toList args.toList ds p := hA0
        rw [Try.params7] at hA hval
        obtain ⟨v0, v1, v2, d0, d1, d2, p0, p1, p2, rfl, rfl, rfl, h0, h1, h2⟩ := trodAll_three hA
        obtain ⟨x0, hx0, wx0⟩ := arg_ints Try.underlying23 Try.underlying5 (by kernel_rfl) (hval 0 23 v0 rfl rfl) h0
        obtain ⟨x1, rfl, rfl, rfl, wx1⟩ := open_int Try.underlying5 (hval 1 5 v1 rfl rfl) h1
        obtain ⟨x2, rfl, rfl, rfl, wx2⟩ := open_int Try.underlying5 (hval 2 5 v2 rfl rfl) h2
        exact foldTrims_walk hx0 wx0 wx1 wx2))

end Go.Proofs.Ytabanackdjlcmaa
